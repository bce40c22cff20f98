/- The Go function slices.Clone at a row of forms returns a row of the same forms, in new cells. No condition but that the row is one that is read, of at most 1000 forms. -/
import Derived.Test.YtpndiobbogelpaaHSym
import Derived.Test.YtpndiobbogelpaaHLayout
import Derived.Lib.LazyBuf
namespace Go.Proofs.Ytpndiobbogelpaa
open Go Go.RowKit Go.Maps Go.Proofs.Hand Go.Proofs.YtpndiobbogelpaaW.PrintWords Go.Proofs.YtpndiobbogelpaaW.PrintLast Go.Proofs.YtpndiobbogelpaaW.PrintMore
set_option maxRecDepth 100000

theorem empty_N (W : World) : Kd.N kForm 53 (W.alloc (.cells #[] 53)) W.heap.size (fun k => W.heap.size ≤ k) (.slice (some ⟨W.heap.size, 0, none⟩) 0 0) [] := by
  refine Kd.R_N ⟨fun k hk => ?_, [], World.ownsRow_made W #[] 0 (Nat.le_refl _) (by decide) rfl, ⟨rfl, fun j p h => by simp at h⟩⟩
  have : W.heap.size = k := by simpa [Value.ownBlock] using hk
  omega
set_option maxRecDepth 100000 in
theorem clone_some (W : World) (ok : Nat → Prop) (ad : Addr) (n c : Nat) (xs : List Form) (hn : n ≤ 1000) (hF : Kd.F kForm W ok (some ad) n xs) :
    Calls Try.prog 46 #[.slice (some ad) n c] W fun e W' => ∃ v, e = .returned v ∧ Below W.heap.size W W' ∧ Kd.N kForm 53 W' W.heap.size (fun k => ok k ∨ W.heap.size ≤ k) v xs := by
  have hF' := Aside0.mk hF
  have hN := Aside0.mk (empty_N W)
  clear hF
  have hl := fun W => run_eql_slice_nil W 51 53 (some ad) n c formsU
  simp only [Option.isNone_some] at hl
  go_enter Try.func46, Try.ntmps46
  go_wp2_with (first
    | (with_reducible refine gate_builtin (b := .append) rfl ?_; refine Kd.N_append_rows kForm (w0 := W) W.heap.size rfl _ _ 51 53 _ 64 rfl formsU formInfo rfl (by decide) (by decide) (.slice (some ⟨W.heap.size, 0, none⟩) 0 0) [] xs (some ad) n c (fun k => ok k ∨ W.heap.size ≤ k) (fun k => ok k ∧ k < W.heap.size) rfl rfl (Kd.N_mono hN.out (fun k hk => .inr hk)) (Kd.F_alloc (Kd.F_bound hF'.out) _) (fun k hk => ⟨.inl hk.1, fun he => (by have h2 := hk.2; have h3 : k = W.heap.size := (by simpa [Value.ownBlock] using he); omega)⟩) (fun k hk => .inr (by rw [World.size_alloc] at hk; omega)) ((Below.refl _ W).alloc (Nat.le_refl _) _) (by rw [World.size_alloc]; omega) (by rw [List.length_nil]; omega) ?_; intro v1 w1 hN1 hB1 _ _; replace hN1 := Aside0.mk hN1))

  go_ret
  exact ⟨_, rfl, hB1, hN1.out⟩
theorem clone_none (W : World) (c : Nat) (hc : c = 0) :
    Calls Try.prog 46 #[.slice none 0 c] W fun e W' => e = .returned (.slice none 0 0) ∧ Below W.heap.size W W' := by
  subst hc
  have hl := fun W => run_eql_slice_nil W 51 53 none 0 0 formsU
  simp only [Option.isNone_none] at hl
  go_enter Try.func46, Try.ntmps46
  go_wp2
  go_ret
  exact ⟨rfl, Below.refl _ _⟩

theorem cells6 {W : World} {b : Nat} {a0 a1 a2 a3 a4 a5 : Value} (h : W.heap[b]? = some (.cells #[a0, a1, a2, a3, a4, a5] 53 (0, 0))) :
    W.cell? ⟨b, 0, none⟩ = some a0 ∧ W.cell? ⟨b, 1, none⟩ = some a1 ∧ W.cell? ⟨b, 2, none⟩ = some a2 ∧ W.cell? ⟨b, 3, none⟩ = some a3 ∧ W.cell? ⟨b, 4, none⟩ = some a4 ∧ W.cell? ⟨b, 5, none⟩ = some a5 := by
  simp [World.cell?, h]
/-- A struct of six cells whose last leads to xs. -/
theorem form_mk {W : World} {ok : Nat → Prop} {v : Value} {base : Nat} {xs : List Form} (a0 a1 a2 a3 a4 : Int) (h : Kd.N kForm 53 W base ok v xs) : Kd.FK kForm W ok ⟨a0, a1, a2, a3, a4, xs⟩ [.int .i64 a0, .int .i64 a1, .int .i64 a2, .int .i64 a3, .int .i64 a4, v] := by
  obtain ⟨A, c, rfl, hl, _⟩ := Kd.N_reads h
  exact k53_mkF W ok ⟨a0, a1, a2, a3, a4, xs⟩ hl (Kd.N_F h)

set_option maxRecDepth 100000 in
set_option maxHeartbeats 1000000 in
theorem row_N (W : World) (ok : Nat → Prop) (ad : Addr) (n c : Nat) (xs : List Form) (hn : n ≤ 1000) (hF : Kd.F kForm W ok (some ad) n xs) :
    Calls Try.prog 40 #[.slice (some ad) n c] W fun e W' => ∃ v5 : Value, e = .returned (.agg #[.int .i64 3, .int .i64 0, .int .i64 0, .int .i64 0, .int .i64 0, v5]) ∧ Below W.heap.size W W' ∧ Kd.N kForm 53 W' W.heap.size (fun k => ok k ∨ W.heap.size ≤ k) v5 xs := by
  have hF' := Aside0.mk hF
  clear hF
  have hblk0 := heap_at W (.cells #[(.int .i64 0), (.int .i64 0), (.int .i64 0), (.int .i64 0), (.int .i64 0), (.slice none 0 0)] 53) W.heap.size rfl
  replace hblk0 := Aside0.mk hblk0
  go_enter Try.func40, Try.ntmps40
  go_wp2_with (first
    | (go_at_call 46; refine (clone_some _ (fun k => ok k ∧ k < W.heap.size) ad n c xs hn (Kd.F_alloc (Kd.F_bound hF'.out) _)).mono ?_; rintro e w1 ⟨v, rfl, hb, hN⟩; obtain ⟨A1, c1, rfl, -, -⟩ := Kd.N_reads hN; have hblk := (hb.block W.heap.size (by simp)).trans hblk0.out; obtain ⟨p0, p1, p2, p3, p4, p5⟩ := cells6 hblk; have q0 : ∀ i, w1.frozen? ⟨W.heap.size, i, none⟩ = false := (fun i => by simp [World.frozen?, hblk]); replace hN := Aside0.mk hN; replace hblk := Aside0.mk hblk))
  have hsz := hb.size
  rw [World.size_alloc] at hsz hb
  obtain ⟨W6, hW6⟩ : ∃ W6, ((((((w1.setCell ⟨W.heap.size, 0, none⟩ (.int .i64 3)).setCell ⟨W.heap.size, 1, none⟩ (.int .i64 0)).setCell ⟨W.heap.size, 2, none⟩ (.int .i64 0)).setCell ⟨W.heap.size, 3, none⟩ (.int .i64 0)).setCell ⟨W.heap.size, 4, none⟩ (.int .i64 0)).setCell ⟨W.heap.size, 5, none⟩ (.slice A1 xs.length c1)) = W6 := ⟨_, rfl⟩
  have hoth : ∀ k, k ≠ W.heap.size → W6.heap[k]? = w1.heap[k]? := fun k hk => by
    rw [← hW6, heap_set_ne _ _ _ _ (by simpa using hk), heap_set_ne _ _ _ _ (by simpa using hk), heap_set_ne _ _ _ _ (by simpa using hk), heap_set_ne _ _ _ _ (by simpa using hk), heap_set_ne _ _ _ _ (by simpa using hk), heap_set_ne _ _ _ _ (by simpa using hk)]
  have hB6 : Below W.heap.size w1 W6 := by
    rw [← hW6]
    exact ((((((Below.refl _ w1).setCell (p := ⟨W.heap.size, 0, none⟩) (Nat.le_refl _) _).setCell (p := ⟨W.heap.size, 1, none⟩) (Nat.le_refl _) _).setCell (p := ⟨W.heap.size, 2, none⟩) (Nat.le_refl _) _).setCell (p := ⟨W.heap.size, 3, none⟩) (Nat.le_refl _) _).setCell (p := ⟨W.heap.size, 4, none⟩) (Nat.le_refl _) _).setCell (p := ⟨W.heap.size, 5, none⟩) (Nat.le_refl _) _
  refine bodyPost_ret (v := .agg #[.int .i64 3, .int .i64 0, .int .i64 0, .int .i64 0, .int .i64 0, .slice A1 xs.length c1]) (by simp [results, Try.results40, go_sem, p0, p1, p2, p3, p4, p5]) rfl ?_
  rw [hW6]
  refine ⟨.slice A1 xs.length c1, rfl, ?_, ?_⟩
  · exact (((Below.refl _ W).alloc (Nat.le_refl _) _).trans (hb.mono (by omega))).trans hB6
  · refine Kd.N_lower (Kd.N_mono (Kd.N_step hN.out (fun k hk hlt => hoth k ?_)) (fun k hk => ?_)) (by rw [World.size_alloc]; omega)
    · rcases hk with hk | hk
      · have := hk.2; omega
      · rw [World.size_alloc] at hk; omega
    · rcases hk with hk | hk
      · exact .inl hk.1
      · rw [World.size_alloc] at hk; exact .inr (by omega)
theorem row_some (W : World) (ok : Nat → Prop) (ad : Addr) (n c : Nat) (xs : List Form) (hn : n ≤ 1000) (hF : Kd.F kForm W ok (some ad) n xs) :
    Calls Try.prog 40 #[.slice (some ad) n c] W fun e W' => ∃ cs : List Value, e = .returned (.agg cs.toArray) ∧ Below W.heap.size W W' ∧ Kd.FK kForm W' (fun k => ok k ∨ W.heap.size ≤ k) ⟨3, 0, 0, 0, 0, xs⟩ cs :=
  (row_N W ok ad n c xs hn hF).mono (by
    rintro e W' ⟨v5, rfl, hb, h⟩
    exact ⟨[.int .i64 3, .int .i64 0, .int .i64 0, .int .i64 0, .int .i64 0, v5], rfl, hb, form_mk 3 0 0 0 0 h⟩)
set_option maxRecDepth 100000 in
set_option maxHeartbeats 1000000 in
theorem row_none (W : World) :
    Calls Try.prog 40 #[.slice none 0 0] W fun e W' => ∃ cs : List Value, e = .returned (.agg cs.toArray) ∧ Below W.heap.size W W' ∧ Kd.FK kForm W' (fun k => W.heap.size ≤ k) ⟨3, 0, 0, 0, 0, []⟩ cs := by
  have hblk0 := heap_at W (.cells #[(.int .i64 0), (.int .i64 0), (.int .i64 0), (.int .i64 0), (.int .i64 0), (.slice none 0 0)] 53) W.heap.size rfl
  replace hblk0 := Aside0.mk hblk0
  go_enter Try.func40, Try.ntmps40
  go_wp2_with (first
    | (go_at_call 46; refine (clone_none _ 0 rfl).mono ?_; rintro e w1 ⟨rfl, hb⟩; have hblk := (hb.block W.heap.size (by simp)).trans hblk0.out; obtain ⟨p0, p1, p2, p3, p4, p5⟩ := cells6 hblk; have q0 : ∀ i, w1.frozen? ⟨W.heap.size, i, none⟩ = false := (fun i => by simp [World.frozen?, hblk]); replace hblk := Aside0.mk hblk))
  have hsz := hb.size
  rw [World.size_alloc] at hsz hb
  obtain ⟨W6, hW6⟩ : ∃ W6, ((((((w1.setCell ⟨W.heap.size, 0, none⟩ (.int .i64 3)).setCell ⟨W.heap.size, 1, none⟩ (.int .i64 0)).setCell ⟨W.heap.size, 2, none⟩ (.int .i64 0)).setCell ⟨W.heap.size, 3, none⟩ (.int .i64 0)).setCell ⟨W.heap.size, 4, none⟩ (.int .i64 0)).setCell ⟨W.heap.size, 5, none⟩ (.slice none 0 0)) = W6 := ⟨_, rfl⟩
  have hoth : ∀ k, k ≠ W.heap.size → W6.heap[k]? = w1.heap[k]? := fun k hk => by
    rw [← hW6, heap_set_ne _ _ _ _ (by simpa using hk), heap_set_ne _ _ _ _ (by simpa using hk), heap_set_ne _ _ _ _ (by simpa using hk), heap_set_ne _ _ _ _ (by simpa using hk), heap_set_ne _ _ _ _ (by simpa using hk), heap_set_ne _ _ _ _ (by simpa using hk)]
  have hB6 : Below W.heap.size w1 W6 := by
    rw [← hW6]
    exact ((((((Below.refl _ w1).setCell (p := ⟨W.heap.size, 0, none⟩) (Nat.le_refl _) _).setCell (p := ⟨W.heap.size, 1, none⟩) (Nat.le_refl _) _).setCell (p := ⟨W.heap.size, 2, none⟩) (Nat.le_refl _) _).setCell (p := ⟨W.heap.size, 3, none⟩) (Nat.le_refl _) _).setCell (p := ⟨W.heap.size, 4, none⟩) (Nat.le_refl _) _).setCell (p := ⟨W.heap.size, 5, none⟩) (Nat.le_refl _) _
  refine bodyPost_ret (v := .agg #[.int .i64 3, .int .i64 0, .int .i64 0, .int .i64 0, .int .i64 0, .slice none 0 0]) (by simp [results, Try.results40, go_sem, p0, p1, p2, p3, p4, p5]) rfl ?_
  rw [hW6]
  refine ⟨[.int .i64 3, .int .i64 0, .int .i64 0, .int .i64 0, .int .i64 0, .slice none 0 0], rfl, ?_, ?_⟩
  · exact (((Below.refl _ W).alloc (Nat.le_refl _) _).trans (hb.mono (by omega))).trans hB6
  · exact form_mk 3 0 0 0 0 (Kd.N_nil kForm 53 W6 W.heap.size _)

theorem row_ok (W : World) (ms : List (Nat × Nat)) (v : Value) (xs : List Form) (hl : xs.length ≤ 1000) (hms : ∀ t k, (t, k) ∈ ms → k < W.heap.size) (h : Sat W ms tabSlot v (.forms xs)) :
    Calls Try.prog 40 #[v] W fun e W' => ∃ v, e = .returned v ∧ Below W.heap.size W W' ∧ ∀ t, Sat W' ms t v (.form ⟨3, 0, 0, 0, 0, xs⟩) := by
  have hnew : ∀ k, W.heap.size ≤ k → ¬ inM ms k := fun k hk ⟨t, ht⟩ => by have := hms t k ht; omega
  obtain ⟨A, c, rfl, hlc, hc, hF⟩ := h
  cases A with
  | some ad =>
    refine (row_some W _ ad xs.length c xs hl hF).mono ?_
    rintro e W' ⟨cs, rfl, hb, hf⟩
    exact ⟨_, rfl, hb, fun t => ⟨cs, rfl, Kd.FK_mono hf (fun k hk => hk.elim id (hnew k))⟩⟩
  | none =>
    obtain rfl := hc rfl
    obtain rfl : xs = [] := List.eq_nil_of_length_eq_zero (by omega)
    refine (row_none W).mono ?_
    rintro e W' ⟨cs, rfl, hb, hf⟩
    exact ⟨_, rfl, hb, fun t => ⟨cs, rfl, Kd.FK_mono hf (fun k hk => hnew k hk)⟩⟩
end Go.Proofs.Ytpndiobbogelpaa
