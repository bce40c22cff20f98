/- The Go functions shape.item and shape.Item return the form of an extension in a list, in new cells; no condition. -/
import Derived.Test.YtjlpgndcomligaaHExt
namespace Go.Proofs.Ytjlpgndcomligaa
open Go Go.RowKit Go.Maps Go.Proofs.Hand Go.Proofs.YtjlpgndcomligaaW.PrintWords Go.Proofs.YtjlpgndcomligaaW.PrintLast Go.Proofs.YtjlpgndcomligaaW.PrintMore

def lows (n : Nat) : List (Nat × Nat) := (List.range n).map fun k => (0, k)
theorem in_lows (n k : Nat) : inM (lows n) k ↔ k < n := by
  unfold inM lows
  constructor
  · rintro ⟨t, ht⟩
    obtain ⟨x, hx, e⟩ := List.mem_map.1 ht
    obtain rfl := (Prod.mk.inj e).2
    exact List.mem_range.1 hx
  · intro h
    exact ⟨0, List.mem_map.2 ⟨k, List.mem_range.2 h, rfl⟩⟩
/-- The two parts' block. -/
theorem item_F {w0 w1 w2 : World} {n : Nat} {A1 A2 : Option Addr} {c1 c2 : Nat} (hb1 : Below n w0 w1) (hb2 : Below w1.heap.size w1 w2) (h1 : Kd.R kForm 24 w1 w0.heap.size (fun _ => True) (.slice A1 0 c1) []) (h2 : Kd.R kForm 24 w2 w1.heap.size (fun _ => True) (.slice A2 0 c2) []) (hn : w0.heap.size = n) :
    Kd.F kForm (w2.alloc (.cells #[.int .i64 0, .int .i64 2, .int .i64 0, .int .i64 0, .int .i64 0, .slice A1 0 c1, .int .i64 1, .int .i64 2, .int .i64 0, .int .i64 65535, .int .i64 1, .slice A2 0 c2] 24)) (fun k => ¬ inM (lows n) k) (some ⟨w2.heap.size, 0, none⟩) 2 [⟨0, 2, 0, 0, 0, []⟩, ⟨1, 2, 0, 65535, 1, []⟩] := by
  have e1 : Kd.FK kForm w2 (fun k => ¬ inM (lows n) k) ⟨0, 2, 0, 0, 0, []⟩ [.int .i64 0, .int .i64 2, .int .i64 0, .int .i64 0, .int .i64 0, .slice A1 0 c1] :=
    form_mk 0 2 0 0 0 (Kd.N_mono (Kd.R_N (Kd.R_bound (Kd.R_step h1 (fun k _ hlt => hb2.block k hlt)))) (fun k hk => by rw [in_lows]; have := hk.2.1; omega))
  have e2 : Kd.FK kForm w2 (fun k => ¬ inM (lows n) k) ⟨1, 2, 0, 65535, 1, []⟩ [.int .i64 1, .int .i64 2, .int .i64 0, .int .i64 65535, .int .i64 1, .slice A2 0 c2] :=
    form_mk 1 2 0 65535 1 (Kd.N_mono (Kd.R_N (Kd.R_bound h2)) (fun k hk => by rw [in_lows]; have := hk.2.1; have := hb1.size; omega))
  refine build_F (W := w2) (ms := lows n) kForm (by decide) (vs := [.agg #[.int .i64 0, .int .i64 2, .int .i64 0, .int .i64 0, .int .i64 0, .slice A1 0 c1], .agg #[.int .i64 1, .int .i64 2, .int .i64 0, .int .i64 65535, .int .i64 1, .slice A2 0 c2]]) (xs := [⟨0, 2, 0, 0, 0, []⟩, ⟨1, 2, 0, 65535, 1, []⟩]) rfl (by decide) (fun j v x hv hx => ?_) (fun t k hk => ?_) 24
  · match j, hv, hx with
    | 0, hv, hx => obtain rfl := Option.some.inj hv; obtain rfl := Option.some.inj hx; exact e1
    | 1, hv, hx => obtain rfl := Option.some.inj hv; obtain rfl := Option.some.inj hx; exact e2
  · have := (in_lows n k).1 ⟨t, hk⟩
    have := hb1.size
    have := hb2.size
    omega

def shape_item.f : Option (Int × Int × Int × Int × Int × List Form) := some (3, 0, 0, 0, 0, [⟨0, 2, 0, 0, 0, []⟩, ⟨1, 2, 0, 65535, 1, []⟩])
set_option maxRecDepth 100000 in
set_option maxHeartbeats 2000000 in
theorem shape_item.calls (r1 : Int) (r2 : Int) (r3 : Int) (r4 : Int) (r5 : Int) (r6 : List Form) (w : World) (h : shape_item.f = some (r1, r2, r3, r4, r5, r6)) :
    Calls Try.prog 34 #[] w fun e w' => ∃ v5_ : Value, e = .returned (.agg #[.int .i64 r1, .int .i64 r2, .int .i64 r3, .int .i64 r4, .int .i64 r5, v5_]) ∧ Kd.N kForm 24 w' w.heap.size (fun k_ => (w.heap.size ≤ k_)) v5_ r6 ∧ Below w.heap.size w w' := by
  simp only [shape_item.f, Option.some.injEq, Prod.mk.injEq] at h
  obtain ⟨rfl, rfl, rfl, rfl, rfl, rfl⟩ := h
  have hblk2 := heap_at w (.cells #[(.int .i64 0), (.int .i64 0), (.int .i64 0), (.int .i64 0), (.int .i64 0), (.slice none 0 0)] 24) w.heap.size rfl
  replace hblk2 := Aside0.mk hblk2
  go_enter Try.func34, Try.ntmps34
  go_wp2_with (first
    | (go_at_call 40; refine (layout_Number.calls 2 0 2 0 0 0 [] _ rfl).mono ?_; rintro e w1 ⟨v1, rfl, hR1, hb1⟩; obtain ⟨A1, c1, rfl⟩ := Kd.R_slice hR1; replace hR1 := Aside0.mk hR1)
    | (go_at_call 42; refine (layout_Opaque.calls 2 0 65535 1 2 0 65535 1 [] _ rfl).mono ?_; rintro e w2 ⟨v2, rfl, hR2, hb2⟩; obtain ⟨A2, c2, rfl⟩ := Kd.R_slice hR2; replace hR2 := Aside0.mk hR2)
    | (go_at_call 41; have hb1' := hb1; rw [World.size_alloc] at hb1'; have hb12 : Below (w.heap.size + 1) (w.alloc (.cells #[(.int .i64 0), (.int .i64 0), (.int .i64 0), (.int .i64 0), (.int .i64 0), (.slice none 0 0)] 24)) w2 := (by have := hb1.size; rw [World.size_alloc] at this hb1; exact hb1.trans (hb2.mono this)); have hF := item_F hb1' hb2 hR1.out hR2.out (by rw [World.size_alloc]); have hsz2 := hb12.size; rw [World.size_alloc] at hsz2; refine (row_N _ _ _ 2 2 [⟨0, 2, 0, 0, 0, []⟩, ⟨1, 2, 0, 65535, 1, []⟩] (by decide) hF).mono ?_; rintro e w3 ⟨v5, rfl, hb3, hN⟩; obtain ⟨A6, c6, rfl, -, -⟩ := Kd.N_reads hN; have hbx := (hb3.block w.heap.size (by rw [World.size_alloc]; omega)).trans ((Below.heap_alloc _ _ _ (by omega)).trans ((hb12.block w.heap.size (by omega)).trans hblk2.out)); obtain ⟨y0, y1, y2, y3, y4, y5⟩ := cells6 hbx; have zf : ∀ k, w3.frozen? ⟨w.heap.size, k, none⟩ = false := (fun k => by simp [World.frozen?, hbx]); replace hbx := Aside0.mk hbx; replace hN := Aside0.mk hN; replace hF := Aside0.mk hF))
  obtain ⟨W7, hW7⟩ : ∃ W7, ((((((w3.setCell ⟨w.heap.size, 0, none⟩ (.int .i64 3)).setCell ⟨w.heap.size, 1, none⟩ (.int .i64 0)).setCell ⟨w.heap.size, 2, none⟩ (.int .i64 0)).setCell ⟨w.heap.size, 3, none⟩ (.int .i64 0)).setCell ⟨w.heap.size, 4, none⟩ (.int .i64 0)).setCell ⟨w.heap.size, 5, none⟩ (.slice A6 2 c6)) = W7 := ⟨_, rfl⟩
  have hB7 : Below w.heap.size w3 W7 := by
    rw [← hW7]
    exact ((((((Below.refl _ w3).setCell (p := ⟨w.heap.size, 0, none⟩) (Nat.le_refl _) _).setCell (p := ⟨w.heap.size, 1, none⟩) (Nat.le_refl _) _).setCell (p := ⟨w.heap.size, 2, none⟩) (Nat.le_refl _) _).setCell (p := ⟨w.heap.size, 3, none⟩) (Nat.le_refl _) _).setCell (p := ⟨w.heap.size, 4, none⟩) (Nat.le_refl _) _).setCell (p := ⟨w.heap.size, 5, none⟩) (Nat.le_refl _) _
  have hoth7 : ∀ k, k ≠ w.heap.size → W7.heap[k]? = w3.heap[k]? := fun k hk => by
    rw [← hW7, heap_set_ne _ _ _ _ (by simpa using hk), heap_set_ne _ _ _ _ (by simpa using hk), heap_set_ne _ _ _ _ (by simpa using hk), heap_set_ne _ _ _ _ (by simpa using hk), heap_set_ne _ _ _ _ (by simpa using hk), heap_set_ne _ _ _ _ (by simpa using hk)]
  refine bodyPost_ret (v := .agg #[.int .i64 3, .int .i64 0, .int .i64 0, .int .i64 0, .int .i64 0, .slice A6 2 c6]) (by simp [results, Try.results34, go_sem, y0, y1, y2, y3, y4, y5]) rfl ?_
  rw [hW7]
  have hlo : ∀ k, (¬ inM (lows (w.heap.size + 1)) k ∨ (w2.alloc (.cells #[.int .i64 0, .int .i64 2, .int .i64 0, .int .i64 0, .int .i64 0, .slice A1 0 c1, .int .i64 1, .int .i64 2, .int .i64 0, .int .i64 65535, .int .i64 1, .slice A2 0 c2] 24)).heap.size ≤ k) → w.heap.size < k := fun k hk => by
    rcases hk with hk | hk
    · rw [in_lows] at hk; omega
    · rw [World.size_alloc] at hk; omega
  refine ⟨_, rfl, Kd.N_lower (Kd.N_mono (Kd.N_step hN.out (fun k hk _ => hoth7 k (by have := hlo k hk; omega))) (fun k hk => by have := hlo k hk; show w.heap.size ≤ k; omega)) (by rw [World.size_alloc]; omega), ?_⟩
  exact ((((Below.refl _ w).alloc (Nat.le_refl _) _).trans (hb12.mono (by omega))).trans (((Below.refl _ w2).alloc (by omega) _).trans (hb3.mono (by rw [World.size_alloc]; omega)))).trans hB7
def shape_Item.f : Option (Int × Int × Int × Int × Int × List Form) := shape_item.f
set_option maxRecDepth 100000 in
set_option maxHeartbeats 2000000 in
theorem shape_Item.calls (r1 : Int) (r2 : Int) (r3 : Int) (r4 : Int) (r5 : Int) (r6 : List Form) (w : World) (h : shape_Item.f = some (r1, r2, r3, r4, r5, r6)) :
    Calls Try.prog 16 #[] w fun e w' => ∃ v5_ : Value, e = .returned (.agg #[.int .i64 r1, .int .i64 r2, .int .i64 r3, .int .i64 r4, .int .i64 r5, v5_]) ∧ Kd.N kForm 24 w' w.heap.size (fun k_ => (w.heap.size ≤ k_)) v5_ r6 ∧ Below w.heap.size w w' := by
  have hblk2 := heap_at w (.cells #[(.int .i64 0), (.int .i64 0), (.int .i64 0), (.int .i64 0), (.int .i64 0), (.slice none 0 0)] 24) w.heap.size rfl
  replace hblk2 := Aside0.mk hblk2
  have hi := shape_item.calls r1 r2 r3 r4 r5 r6 (w.alloc (.cells #[(.int .i64 0), (.int .i64 0), (.int .i64 0), (.int .i64 0), (.int .i64 0), (.slice none 0 0)] 24)) h
  replace hi := Aside0.mk hi
  go_enter Try.func16, Try.ntmps16
  go_wp2_with (first
    | (go_at_call 34; refine hi.out.mono ?_; rintro e w3 ⟨v5, rfl, hN, hb3⟩; have hs3 := hb3.size; rw [World.size_alloc] at hs3; obtain ⟨A6, c6, rfl, -, -⟩ := Kd.N_reads hN; have hbx := (hb3.block w.heap.size (by rw [World.size_alloc]; omega)).trans hblk2.out; obtain ⟨y0, y1, y2, y3, y4, y5⟩ := cells6 hbx; have zf : ∀ k, w3.frozen? ⟨w.heap.size, k, none⟩ = false := (fun k => by simp [World.frozen?, hbx]); replace hbx := Aside0.mk hbx; replace hN := Aside0.mk hN))
  obtain ⟨W7, hW7⟩ : ∃ W7, ((((((w3.setCell ⟨w.heap.size, 0, none⟩ (.int .i64 r1)).setCell ⟨w.heap.size, 1, none⟩ (.int .i64 r2)).setCell ⟨w.heap.size, 2, none⟩ (.int .i64 r3)).setCell ⟨w.heap.size, 3, none⟩ (.int .i64 r4)).setCell ⟨w.heap.size, 4, none⟩ (.int .i64 r5)).setCell ⟨w.heap.size, 5, none⟩ (.slice A6 r6.length c6)) = W7 := ⟨_, rfl⟩
  have hB7 : Below w.heap.size w3 W7 := by
    rw [← hW7]
    exact ((((((Below.refl _ w3).setCell (p := ⟨w.heap.size, 0, none⟩) (Nat.le_refl _) _).setCell (p := ⟨w.heap.size, 1, none⟩) (Nat.le_refl _) _).setCell (p := ⟨w.heap.size, 2, none⟩) (Nat.le_refl _) _).setCell (p := ⟨w.heap.size, 3, none⟩) (Nat.le_refl _) _).setCell (p := ⟨w.heap.size, 4, none⟩) (Nat.le_refl _) _).setCell (p := ⟨w.heap.size, 5, none⟩) (Nat.le_refl _) _
  have hoth7 : ∀ k, k ≠ w.heap.size → W7.heap[k]? = w3.heap[k]? := fun k hk => by
    rw [← hW7, heap_set_ne _ _ _ _ (by simpa using hk), heap_set_ne _ _ _ _ (by simpa using hk), heap_set_ne _ _ _ _ (by simpa using hk), heap_set_ne _ _ _ _ (by simpa using hk), heap_set_ne _ _ _ _ (by simpa using hk), heap_set_ne _ _ _ _ (by simpa using hk)]
  refine bodyPost_ret (v := .agg #[.int .i64 r1, .int .i64 r2, .int .i64 r3, .int .i64 r4, .int .i64 r5, .slice A6 r6.length c6]) (by simp [results, Try.results16, go_sem, y0, y1, y2, y3, y4, y5]) rfl ?_
  rw [hW7]
  refine ⟨_, rfl, Kd.N_lower (Kd.N_mono (Kd.N_step hN.out (fun k hk _ => hoth7 k (by rw [World.size_alloc] at hk; omega))) (fun k hk => by rw [World.size_alloc] at hk; show w.heap.size ≤ k; omega)) (by rw [World.size_alloc]; omega), ?_⟩
  exact (((Below.refl _ w).alloc (Nat.le_refl _) _).trans (hb3.mono (by rw [World.size_alloc]; omega))).trans hB7
end Go.Proofs.Ytjlpgndcomligaa
