/- The exported functions of package shape that return forms, in the form of the print's contracts; the numbers are ints. -/
import Derived.Test.YtpndiobbogelpaaHOwn
namespace Go.Proofs.Ytpndiobbogelpaa
open Go Go.RowKit Go.Maps Go.Proofs.Hand Go.Proofs.YtpndiobbogelpaaW.PrintWords Go.Proofs.YtpndiobbogelpaaW.PrintLast Go.Proofs.YtpndiobbogelpaaW.PrintMore
set_option maxRecDepth 100000

def zForm : Form := ⟨0, 0, 0, 0, 0, []⟩
theorem zeroForm (w : World) : (zeroValue 53).run Try.prog w = .ok (.agg #[(.int .i64 0), (.int .i64 0), (.int .i64 0), (.int .i64 0), (.int .i64 0), (.slice none 0 0)]) w := by kernel_rfl
/-- A look into the map: the form, or the zero one, and whether it is there. -/
theorem TabAt.looks {Y : Keys} {W : World} {ms : List (Nat × Nat)} {m n : Nat} {T : Y.κ → Option Form} (h : TabAt Y W ms m n T) {x : Y.κ} (hx : Y.ok x) :
    ∃ cs : List Value, (Instr.lookup Y.mt (.map (some m)) (Y.enc x) true).run Try.prog W = .ok (.tuple #[.agg cs.toArray, .bool (T x).isSome]) W ∧ Kd.FK kForm W (fun k => ¬ inM ms k) ((T x).getD zForm) cs := by
  obtain ⟨M, hM, hT⟩ := h
  have hl := hM.look_ok Y.law Y.und (zeroForm W) (Y.key x hx)
  have hx' := hT x hx
  cases hTx : T x with
  | none =>
    rw [hTx] at hx'
    simp only at hx'
    rw [hx'] at hl
    exact ⟨[(.int .i64 0), (.int .i64 0), (.int .i64 0), (.int .i64 0), (.int .i64 0), (.slice none 0 0)], hl, form_mk 0 0 0 0 0 (Kd.N_nil kForm 53 W 0 _)⟩
  | some f =>
    rw [hTx] at hx'
    obtain ⟨v, h1, cs, rfl, h2⟩ := hx'
    rw [h1] at hl
    exact ⟨cs, hl, h2⟩
def shortN : Nat → Form → Bool
  | 0, _ => false
  | n + 1, f => Nat.ble f.f5.length 1000 && f.f5.all (shortN n)
theorem short_of : ∀ (n : Nat) (f : Form), shortN n f = true → Short f
  | 0, _, h => by cases h
  | n + 1, f, h => by
    simp only [shortN, Bool.and_eq_true] at h
    exact ⟨f, Nat.le_of_ble_eq_true h.1, fun g hg => short_of n g (List.all_eq_true.1 h.2 g hg)⟩
theorem look_mem (Y : Keys) : ∀ (l : List (Y.κ × Form)) (z : Y.κ) (f : Form), look Y l z = some f → ∃ x ∈ l, x.2 = f
  | [], _, _, h => by cases h
  | x :: l, z, f, h => by
    simp only [look] at h
    split at h
    · exact ⟨x, List.mem_cons_self, Option.some.inj h⟩
    · obtain ⟨y, hy, e⟩ := look_mem Y l z f h
      exact ⟨y, List.mem_cons_of_mem _ hy, e⟩
theorem look_some_iff (Y : Keys) : ∀ (l : List (Y.κ × Form)) (z : Y.κ), (look Y l z).isSome = true ↔ z ∈ l.map (·.1)
  | [], z => by simp [look]
  | x :: l, z => by
    have ih := look_some_iff Y l z
    have e : (Y.deq z x.1).decide = true ↔ z = x.1 := by
      cases Y.deq z x.1 <;> simp_all
    simp only [look, List.map_cons, List.mem_cons]
    by_cases h : z = x.1
    · simp [h]
    · simp [h, ih]
theorem look_short (Y : Keys) {l : List (Y.κ × Form)} (hl : (l.all fun x => shortN 9 x.2) = true) (z : Y.κ) : Short ((look Y l z).getD zForm) := by
  cases h : look Y l z with
  | none => exact short_of 1 zForm rfl
  | some f =>
    obtain ⟨x, hx, rfl⟩ := look_mem Y l z f h
    exact short_of 9 _ (List.all_eq_true.1 hl x hx)
theorem extShort : (extTab.all fun x => shortN 9 x.2) = true := by decide +kernel

def tell (o : Option Form) : Int × Int × Int × Int × Int × List Form × Bool := ((o.getD zForm).f0, (o.getD zForm).f1, (o.getD zForm).f2, (o.getD zForm).f3, (o.getD zForm).f4, (o.getD zForm).f5, o.isSome)
end Go.Proofs.Ytpndiobbogelpaa

namespace Go.Proofs.Ytpndiobbogelpaa
open Go Go.RowKit Go.Maps Go.Proofs.Hand Go.Proofs.YtpndiobbogelpaaW.PrintWords Go.Proofs.YtpndiobbogelpaaW.PrintLast Go.Proofs.YtpndiobbogelpaaW.PrintMore
set_option maxRecDepth 100000

def shape_Ext.f (a0 a1 : Int) : Option (Int × Int × Int × Int × Int × List Form × Bool) := if (Lit.int .i64 a0).wf = true ∧ (Lit.int .i64 a1).wf = true then some (tell (look keysSpot extTab (a0, a1))) else none
set_option maxRecDepth 100000 in
set_option maxHeartbeats 2000000 in
theorem shape_Ext.calls (a0 a1 : Int) (r1 : Int) (r2 : Int) (r3 : Int) (r4 : Int) (r5 : Int) (r6 : List Form) (r7 : Bool) (w : World) (h : shape_Ext.f a0 a1 = some (r1, r2, r3, r4, r5, r6, r7)) :
    Calls Try.prog 22 #[.int .i64 a0, .int .i64 a1] w fun e w' => ∃ v5_ : Value, e = .returned (.tuple #[.agg #[.int .i64 r1, .int .i64 r2, .int .i64 r3, .int .i64 r4, .int .i64 r5, v5_], .bool r7]) ∧ Kd.N kForm 53 w' w.heap.size (fun k_ => (w.heap.size ≤ k_)) v5_ r6 ∧ Below w.heap.size w w' := by
  unfold shape_Ext.f at h
  split at h
  case isFalse => cases h
  rename_i hw
  have hsh := look_short keysSpot extShort (a0, a1)
  simp only [tell, Option.some.injEq, Prod.mk.injEq] at h
  obtain ⟨rfl, rfl, rfl, rfl, rfl, rfl, rfl⟩ := h
  have hblk2 := heap_at w (.cells #[(.int .i64 0), (.int .i64 0), (.int .i64 0), (.int .i64 0), (.int .i64 0), (.slice none 0 0)] 53) w.heap.size rfl
  have hmsg := extensions_ok (w.alloc (.cells #[(.int .i64 0), (.int .i64 0), (.int .i64 0), (.int .i64 0), (.int .i64 0), (.slice none 0 0)] 53))
  have hlook : ∀ W1 ms m n, TabAt keysSpot W1 ms m n (look keysSpot extTab) → ∃ cs : List Value, (Instr.lookup 66 (.map (some m)) (.agg #[.int .i64 a0, .int .i64 a1]) true).run Try.prog W1 = .ok (.tuple #[.agg cs.toArray, .bool (look keysSpot extTab (a0, a1)).isSome]) W1 ∧ Kd.FK kForm W1 (fun k => ¬ inM ms k) ((look keysSpot extTab (a0, a1)).getD zForm) cs := fun W1 ms m n ht => ht.looks (Y := keysSpot) (x := (a0, a1)) hw
  generalize look keysSpot extTab (a0, a1) = o at hsh hlook
  have hown := own_ok _ hsh
  generalize o.getD zForm = g at hlook hown
  replace hlook := Aside0.mk hlook
  replace hown := Aside0.mk hown
  replace hblk2 := Aside0.mk hblk2
  go_enter Try.func22, Try.ntmps22
  go_wp2_with (first
    | (go_at_call 27; refine hmsg.mono ?_; rintro e w1 ⟨m, ms, rfl, hb1, ht, -, -⟩; obtain ⟨cs, hlk, hfk⟩ := hlook.out w1 ms m _ ht; obtain ⟨A5, c5, rfl, -, -⟩ := k53_openF hfk; replace hfk := Aside0.mk hfk; clear ht)
    | (go_at_call 28; refine (hown.out _ _ (Kd.FK_mono (Kd.FK_step (Kd.FK_bound hfk.out) (fun k hk hlt => Below.heap_alloc _ _ _ hlt)) (fun k hk => by rw [World.size_alloc]; have := hk.2; omega))).mono ?_; rintro e w2 ⟨v5, rfl, hR, hb2⟩; obtain ⟨A6, c6, rfl⟩ := Kd.R_slice hR; have hs1 := hb1.size; have hs2 := hb2.size; rw [World.size_alloc] at hs1 hs2; have hbx := (hb2.block w.heap.size (by rw [World.size_alloc]; omega)).trans ((Below.heap_alloc _ _ _ (by omega)).trans ((hb1.block w.heap.size (by simp)).trans hblk2.out)); obtain ⟨y0, y1, y2, y3, y4, y5⟩ := cells6 hbx; have zf : ∀ k, w2.frozen? ⟨w.heap.size, k, none⟩ = false := (fun k => by simp [World.frozen?, hbx]); replace hbx := Aside0.mk hbx; replace hR := Aside0.mk hR))
  obtain ⟨W7, hW7⟩ : ∃ W7, ((((((w2.setCell ⟨w.heap.size, 0, none⟩ (.int .i64 g.f0)).setCell ⟨w.heap.size, 1, none⟩ (.int .i64 g.f1)).setCell ⟨w.heap.size, 2, none⟩ (.int .i64 g.f2)).setCell ⟨w.heap.size, 3, none⟩ (.int .i64 g.f3)).setCell ⟨w.heap.size, 4, none⟩ (.int .i64 g.f4)).setCell ⟨w.heap.size, 5, none⟩ (.slice A6 g.f5.length c6)) = W7 := ⟨_, rfl⟩
  have hB7 : Below w.heap.size w2 W7 := by
    rw [← hW7]
    exact ((((((Below.refl _ w2).setCell (p := ⟨w.heap.size, 0, none⟩) (Nat.le_refl _) _).setCell (p := ⟨w.heap.size, 1, none⟩) (Nat.le_refl _) _).setCell (p := ⟨w.heap.size, 2, none⟩) (Nat.le_refl _) _).setCell (p := ⟨w.heap.size, 3, none⟩) (Nat.le_refl _) _).setCell (p := ⟨w.heap.size, 4, none⟩) (Nat.le_refl _) _).setCell (p := ⟨w.heap.size, 5, none⟩) (Nat.le_refl _) _
  have hoth7 : ∀ k, k ≠ w.heap.size → W7.heap[k]? = w2.heap[k]? := fun k hk => by
    rw [← hW7, heap_set_ne _ _ _ _ (by simpa using hk), heap_set_ne _ _ _ _ (by simpa using hk), heap_set_ne _ _ _ _ (by simpa using hk), heap_set_ne _ _ _ _ (by simpa using hk), heap_set_ne _ _ _ _ (by simpa using hk), heap_set_ne _ _ _ _ (by simpa using hk)]
  refine bodyPost_ret (v := .tuple #[.agg #[.int .i64 g.f0, .int .i64 g.f1, .int .i64 g.f2, .int .i64 g.f3, .int .i64 g.f4, .slice A6 g.f5.length c6], .bool o.isSome]) (by simp [results, Try.results22, go_sem, y0, y1, y2, y3, y4, y5]) rfl ?_
  rw [hW7]
  refine ⟨_, rfl, Kd.N_mono (Kd.N_lower (Kd.R_N (Kd.R_step hR.out (fun k hk _ => hoth7 k (by rw [World.size_alloc] at hk; omega)))) (by rw [World.size_alloc]; omega)) (fun k hk => by rw [World.size_alloc] at hk; omega), ?_⟩
  exact ((((Below.refl _ w).alloc (Nat.le_refl _) _).trans (hb1.mono (by simp))).trans (((Below.refl _ w1).alloc (by omega) _).trans (hb2.mono (by rw [World.size_alloc]; omega)))).trans hB7
end Go.Proofs.Ytpndiobbogelpaa
