/- Contracts of plain functions, as the print writes them; each says its condition itself. -/
import Derived.Test.YtmdmllfbdpoeeaaHKinds
namespace Go.Proofs.Ytmdmllfbdpoeeaa
open Go.RowKit Go.Proofs.YtmdmllfbdpoeeaaW.PrintWords Go.Proofs.YtmdmllfbdpoeeaaW.PrintLast Go.Proofs.YtmdmllfbdpoeeaaW.PrintMore
attribute [local go_sem] max2_int min2_int max_two min_two max_three min_three max_four min_four   -- for this text's walks alone
set_option linter.unusedVariables false
set_option linter.unusedSimpArgs false


/-! ### hand_Found_Place: by hand -/

/-- A state of type 57 at block g of W; what its slices lead to came in by w0. -/
def IsS57 (w0 W : World) (g : Nat) (f0 : Int) (f1 : List Int) (f2 : List (S39)) (f3 : Int) (f4 : Int) (f5 : Int) (f6 : Int) : Prop := ∃ A1 c1, ∃ A2 c2, W.heap[g]? = some (.cells #[.int .i64 f0, .slice A1 f1.length c1, .slice A2 f2.length c2, .int .i64 f3, .int .i64 f4, .int .i64 f5, .int .i64 f6] 57 (0, 0)) ∧ w0.heap.size ≤ g ∧ Kd.C (Kd.int .u8) w0 A1 f1.length f1 ∧ Kd.C k39 w0 A2 f2.length f2
theorem IsS57.grown {w0 W : World} {g : Nat} {f0 : Int} {f1 : List Int} {f2 : List (S39)} {f3 : Int} {f4 : Int} {f5 : Int} {f6 : Int} {W1 : World} {row : Option Nat} (h : IsS57 w0 W g f0 f1 f2 f3 f4 f5 f6) (hw : W.grownBy W1 row) (hne : some g ≠ row) : IsS57 w0 W1 g f0 f1 f2 f3 f4 f5 f6 := by
  obtain ⟨A1, c1, A2, c2, hb, hg, hr1, hr2⟩ := h
  exact ⟨A1, c1, A2, c2, blk_grown hb hw hne, hg, hr1, hr2⟩
theorem IsS57.own_neN {w0 W : World} {g : Nat} {f0 : Int} {f1 : List Int} {f2 : List (S39)} {f3 : Int} {f4 : Int} {f5 : Int} {f6 : Int} {α : Type} {d : Kd α} {e : Nat} {base : Nat} {ok : Nat → Prop} {v : Value} {xs : List α} (h : IsS57 w0 W g f0 f1 f2 f3 f4 f5 f6) (ho : Kd.N d e W base ok v xs) (ht : e ≠ 57) : some g ≠ v.ownBlock := by
  obtain ⟨A1, c1, A2, c2, hb, hg, hr1, hr2⟩ := h
  exact Kd.N_ne ho hb ht
theorem IsS57.fresh {w0 W : World} {g : Nat} {f0 : Int} {f1 : List Int} {f2 : List (S39)} {f3 : Int} {f4 : Int} {f5 : Int} {f6 : Int} (h : IsS57 w0 W g f0 f1 f2 f3 f4 f5 f6) : ∀ k, W.heap.size ≤ k → k ≠ g := by
  obtain ⟨A1, c1, A2, c2, hb, hg, hr1, hr2⟩ := h
  exact Kd.freshB hb
theorem IsS57.kept {w0 W : World} {g : Nat} {f0 : Int} {f1 : List Int} {f2 : List (S39)} {f3 : Int} {f4 : Int} {f5 : Int} {f6 : Int} {W1 : World} {S : Nat → Prop} (h : IsS57 w0 W g f0 f1 f2 f3 f4 f5 f6) (hk : Kept W W1 S) (hne : ¬ S g) : IsS57 w0 W1 g f0 f1 f2 f3 f4 f5 f6 := by
  obtain ⟨A1, c1, A2, c2, hb, hg, hr1, hr2⟩ := h
  exact ⟨A1, c1, A2, c2, blk_kept hb hk hne, hg, hr1, hr2⟩
theorem IsS57.below {w0 W : World} {g : Nat} {f0 : Int} {f1 : List Int} {f2 : List (S39)} {f3 : Int} {f4 : Int} {f5 : Int} {f6 : Int} {W1 : World} (h : IsS57 w0 W g f0 f1 f2 f3 f4 f5 f6) (hw : Below W.heap.size W W1) : IsS57 w0 W1 g f0 f1 f2 f3 f4 f5 f6 := h.grown (grown_of_below hw none) (by simp)
theorem IsS57.alloc {w0 W : World} {g : Nat} {f0 : Int} {f1 : List Int} {f2 : List (S39)} {f3 : Int} {f4 : Int} {f5 : Int} {f6 : Int} (h : IsS57 w0 W g f0 f1 f2 f3 f4 f5 f6) (o : Obj) : IsS57 w0 (W.alloc o) g f0 f1 f2 f3 f4 f5 f6 := h.below (below_alloc (Below.refl _ _) o)
theorem IsS57.drewN {w0 W : World} {g : Nat} {f0 : Int} {f1 : List Int} {f2 : List (S39)} {f3 : Int} {f4 : Int} {f5 : Int} {f6 : Int} (h : IsS57 w0 W g f0 f1 f2 f3 f4 f5 f6) (m : Nat) : IsS57 w0 (W.drewN m) g f0 f1 f2 f3 f4 f5 f6 := h
theorem IsS57.drew {w0 W : World} {g : Nat} {f0 : Int} {f1 : List Int} {f2 : List (S39)} {f3 : Int} {f4 : Int} {f5 : Int} {f6 : Int} (h : IsS57 w0 W g f0 f1 f2 f3 f4 f5 f6) : IsS57 w0 W.drew g f0 f1 f2 f3 f4 f5 f6 := h
theorem IsS57.at_ {w0 W : World} {g : Nat} {f0 : Int} {f1 : List Int} {f2 : List (S39)} {f3 : Int} {f4 : Int} {f5 : Int} {f6 : Int} {w' : World} {m : Nat} (hq : W.drewN m = w') (h : IsS57 w0 W g f0 f1 f2 f3 f4 f5 f6) : IsS57 w0 w' g f0 f1 f2 f3 f4 f5 f6 := by subst hq; exact IsS57.drewN h m
theorem IsS57.apart {w0 W : World} {g : Nat} {f0 : Int} {f1 : List Int} {f2 : List (S39)} {f3 : Int} {f4 : Int} {f5 : Int} {f6 : Int} {α : Type} {d : Kd α} {e : Nat} {base : Nat} {ok : Nat → Prop} {v : Value} {xs : List α} (h : IsS57 w0 W g f0 f1 f2 f3 f4 f5 f6) (ho : d.R e W base ok v xs) (ht : ∀ q, q ∈ e :: d.E → q ≠ 57) : d.R e W base (fun k => ok k ∧ k ≠ g) v xs := by
  obtain ⟨A1, c1, A2, c2, hb, hg, hr1, hr2⟩ := h
  exact Kd.R_types ho hb ht
theorem IsS57.own_ne {w0 W : World} {g : Nat} {f0 : Int} {f1 : List Int} {f2 : List (S39)} {f3 : Int} {f4 : Int} {f5 : Int} {f6 : Int} {α : Type} {d : Kd α} {e : Nat} {base : Nat} {ok : Nat → Prop} {v : Value} {xs : List α} (h : IsS57 w0 W g f0 f1 f2 f3 f4 f5 f6) (ho : d.R e W base ok v xs) (ht : e ≠ 57) : some g ≠ v.ownBlock := by
  obtain ⟨A1, c1, A2, c2, hb, hg, hr1, hr2⟩ := h
  exact Kd.R_ne ho hb ht
theorem IsS57.apartQ {w0 W : World} {g : Nat} {f0 : Int} {f1 : List Int} {f2 : List (S39)} {f3 : Int} {f4 : Int} {f5 : Int} {f6 : Int} {α : Type} {d : Kd α} {e : Nat} {base : Nat} {ok : Nat → Prop} {v : Value} {xs : List α} (h : IsS57 w0 W g f0 f1 f2 f3 f4 f5 f6) (ho : d.Q e W base ok v xs) (ht : ∀ q, q ∈ e :: d.E → q ≠ 57) : d.Q e W base (fun k => ok k ∧ k ≠ g) v xs := by
  obtain ⟨A1, c1, A2, c2, hb, hg, hr1, hr2⟩ := h
  exact Kd.Q_types ho hb ht
theorem IsS57.own_neQ {w0 W : World} {g : Nat} {f0 : Int} {f1 : List Int} {f2 : List (S39)} {f3 : Int} {f4 : Int} {f5 : Int} {f6 : Int} {α : Type} {d : Kd α} {e : Nat} {base : Nat} {ok : Nat → Prop} {v : Value} {xs : List α} (h : IsS57 w0 W g f0 f1 f2 f3 f4 f5 f6) (ho : d.Q e W base ok v xs) (ht : e ≠ 57) : some g ≠ v.ownBlock := by
  obtain ⟨A1, c1, A2, c2, hb, hg, hr1, hr2⟩ := h
  exact Kd.Q_ne ho hb ht
theorem IsS57.apartS {w0 W : World} {g : Nat} {f0 : Int} {f1 : List Int} {f2 : List (S39)} {f3 : Int} {f4 : Int} {f5 : Int} {f6 : Int} {α : Type} {d : Kd α} {e : Nat} {base : Nat} {ok : Nat → Prop} {v : Value} {xs : List α} (h : IsS57 w0 W g f0 f1 f2 f3 f4 f5 f6) (ho : d.S e W base ok v xs) (ht : ∀ q, q ∈ e :: d.E → q ≠ 57) : d.S e W base (fun k => ok k ∧ k ≠ g) v xs := by
  obtain ⟨A1, c1, A2, c2, hb, hg, hr1, hr2⟩ := h
  exact Kd.S_types ho hb ht
theorem IsS57.own_neS {w0 W : World} {g : Nat} {f0 : Int} {f1 : List Int} {f2 : List (S39)} {f3 : Int} {f4 : Int} {f5 : Int} {f6 : Int} {α : Type} {d : Kd α} {e : Nat} {base : Nat} {ok : Nat → Prop} {v : Value} {xs : List α} (h : IsS57 w0 W g f0 f1 f2 f3 f4 f5 f6) (ho : d.S e W base ok v xs) (ht : e ≠ 57) : some g ≠ v.ownBlock := by
  obtain ⟨A1, c1, A2, c2, hb, hg, hr1, hr2⟩ := h
  exact Kd.S_ne ho hb ht
theorem IsS57.lt {w0 W : World} {g : Nat} {f0 : Int} {f1 : List Int} {f2 : List (S39)} {f3 : Int} {f4 : Int} {f5 : Int} {f6 : Int} (h : IsS57 w0 W g f0 f1 f2 f3 f4 f5 f6) : g < W.heap.size := by
  obtain ⟨A1, c1, A2, c2, hb, hg, hr1, hr2⟩ := h
  exact blk_lt hb
theorem IsS57.ge {w0 W : World} {g : Nat} {f0 : Int} {f1 : List Int} {f2 : List (S39)} {f3 : Int} {f4 : Int} {f5 : Int} {f6 : Int} (h : IsS57 w0 W g f0 f1 f2 f3 f4 f5 f6) : w0.heap.size ≤ g := by
  obtain ⟨A1, c1, A2, c2, hb, hg, hr1, hr2⟩ := h
  exact hg
theorem IsS57.ne_blk {w0 W : World} {g : Nat} {f0 : Int} {f1 : List Int} {f2 : List (S39)} {f3 : Int} {f4 : Int} {f5 : Int} {f6 : Int} {a : Nat} {cs : Array Value} {t : TypeId} {fr : Nat × Nat} (h : IsS57 w0 W g f0 f1 f2 f3 f4 f5 f6) (hb2 : W.heap[a]? = some (.cells cs t fr)) (ht : t ≠ 57) : g ≠ a := by
  obtain ⟨A1, c1, A2, c2, hb, hg, hr1, hr2⟩ := h
  rintro rfl
  rw [hb] at hb2
  injection hb2 with hb2
  injection hb2 with _ ht2
  exact ht ht2.symm
theorem IsS57.far {w0 W : World} {g : Nat} {f0 : Int} {f1 : List Int} {f2 : List (S39)} {f3 : Int} {f4 : Int} {f5 : Int} {f6 : Int} {p : Addr} (h : IsS57 w0 W g f0 f1 f2 f3 f4 f5 f6) (hne : g ≠ p.block) (u : Value) : IsS57 w0 (W.setCell p u) g f0 f1 f2 f3 f4 f5 f6 := by
  obtain ⟨A1, c1, A2, c2, hb, hg, hr1, hr2⟩ := h
  exact ⟨A1, c1, A2, c2, blk_far hb hne u, hg, hr1, hr2⟩
theorem cellS57_0 {W : World} {g : Nat} {A1 : Option Addr} {c1 : Nat} {A2 : Option Addr} {c2 : Nat} {f0 : Int} {f1 : List Int} {f2 : List (S39)} {f3 : Int} {f4 : Int} {f5 : Int} {f6 : Int} (h : W.heap[g]? = some (.cells #[.int .i64 f0, .slice A1 f1.length c1, .slice A2 f2.length c2, .int .i64 f3, .int .i64 f4, .int .i64 f5, .int .i64 f6] 57 (0, 0))) : W.cell? ⟨g, 0, none⟩ = some (.int .i64 f0) := (blk_cell h 0).trans rfl
theorem IsS57.set_0 {w0 W : World} {g : Nat} {f0 : Int} {f1 : List Int} {f2 : List (S39)} {f3 : Int} {f4 : Int} {f5 : Int} {f6 : Int} (h : IsS57 w0 W g f0 f1 f2 f3 f4 f5 f6) (x : Int) : IsS57 w0 (W.setCell ⟨g, 0, none⟩ (.int .i64 x)) g x f1 f2 f3 f4 f5 f6 := by
  obtain ⟨A1, c1, A2, c2, hb, hg, hr1, hr2⟩ := h
  exact ⟨A1, c1, A2, c2, by simpa using blk_set hb 0 (.int .i64 x), hg, hr1, hr2⟩
theorem cellS57_1 {W : World} {g : Nat} {A1 : Option Addr} {c1 : Nat} {A2 : Option Addr} {c2 : Nat} {f0 : Int} {f1 : List Int} {f2 : List (S39)} {f3 : Int} {f4 : Int} {f5 : Int} {f6 : Int} (h : W.heap[g]? = some (.cells #[.int .i64 f0, .slice A1 f1.length c1, .slice A2 f2.length c2, .int .i64 f3, .int .i64 f4, .int .i64 f5, .int .i64 f6] 57 (0, 0))) : W.cell? ⟨g, 1, none⟩ = some (.slice A1 f1.length c1) := (blk_cell h 1).trans rfl
theorem cellS57_2 {W : World} {g : Nat} {A1 : Option Addr} {c1 : Nat} {A2 : Option Addr} {c2 : Nat} {f0 : Int} {f1 : List Int} {f2 : List (S39)} {f3 : Int} {f4 : Int} {f5 : Int} {f6 : Int} (h : W.heap[g]? = some (.cells #[.int .i64 f0, .slice A1 f1.length c1, .slice A2 f2.length c2, .int .i64 f3, .int .i64 f4, .int .i64 f5, .int .i64 f6] 57 (0, 0))) : W.cell? ⟨g, 2, none⟩ = some (.slice A2 f2.length c2) := (blk_cell h 2).trans rfl
theorem cellS57_3 {W : World} {g : Nat} {A1 : Option Addr} {c1 : Nat} {A2 : Option Addr} {c2 : Nat} {f0 : Int} {f1 : List Int} {f2 : List (S39)} {f3 : Int} {f4 : Int} {f5 : Int} {f6 : Int} (h : W.heap[g]? = some (.cells #[.int .i64 f0, .slice A1 f1.length c1, .slice A2 f2.length c2, .int .i64 f3, .int .i64 f4, .int .i64 f5, .int .i64 f6] 57 (0, 0))) : W.cell? ⟨g, 3, none⟩ = some (.int .i64 f3) := (blk_cell h 3).trans rfl
theorem IsS57.set_3 {w0 W : World} {g : Nat} {f0 : Int} {f1 : List Int} {f2 : List (S39)} {f3 : Int} {f4 : Int} {f5 : Int} {f6 : Int} (h : IsS57 w0 W g f0 f1 f2 f3 f4 f5 f6) (x : Int) : IsS57 w0 (W.setCell ⟨g, 3, none⟩ (.int .i64 x)) g f0 f1 f2 x f4 f5 f6 := by
  obtain ⟨A1, c1, A2, c2, hb, hg, hr1, hr2⟩ := h
  exact ⟨A1, c1, A2, c2, by simpa using blk_set hb 3 (.int .i64 x), hg, hr1, hr2⟩
theorem cellS57_4 {W : World} {g : Nat} {A1 : Option Addr} {c1 : Nat} {A2 : Option Addr} {c2 : Nat} {f0 : Int} {f1 : List Int} {f2 : List (S39)} {f3 : Int} {f4 : Int} {f5 : Int} {f6 : Int} (h : W.heap[g]? = some (.cells #[.int .i64 f0, .slice A1 f1.length c1, .slice A2 f2.length c2, .int .i64 f3, .int .i64 f4, .int .i64 f5, .int .i64 f6] 57 (0, 0))) : W.cell? ⟨g, 4, none⟩ = some (.int .i64 f4) := (blk_cell h 4).trans rfl
theorem IsS57.set_4 {w0 W : World} {g : Nat} {f0 : Int} {f1 : List Int} {f2 : List (S39)} {f3 : Int} {f4 : Int} {f5 : Int} {f6 : Int} (h : IsS57 w0 W g f0 f1 f2 f3 f4 f5 f6) (x : Int) : IsS57 w0 (W.setCell ⟨g, 4, none⟩ (.int .i64 x)) g f0 f1 f2 f3 x f5 f6 := by
  obtain ⟨A1, c1, A2, c2, hb, hg, hr1, hr2⟩ := h
  exact ⟨A1, c1, A2, c2, by simpa using blk_set hb 4 (.int .i64 x), hg, hr1, hr2⟩
theorem cellS57_5 {W : World} {g : Nat} {A1 : Option Addr} {c1 : Nat} {A2 : Option Addr} {c2 : Nat} {f0 : Int} {f1 : List Int} {f2 : List (S39)} {f3 : Int} {f4 : Int} {f5 : Int} {f6 : Int} (h : W.heap[g]? = some (.cells #[.int .i64 f0, .slice A1 f1.length c1, .slice A2 f2.length c2, .int .i64 f3, .int .i64 f4, .int .i64 f5, .int .i64 f6] 57 (0, 0))) : W.cell? ⟨g, 5, none⟩ = some (.int .i64 f5) := (blk_cell h 5).trans rfl
theorem IsS57.set_5 {w0 W : World} {g : Nat} {f0 : Int} {f1 : List Int} {f2 : List (S39)} {f3 : Int} {f4 : Int} {f5 : Int} {f6 : Int} (h : IsS57 w0 W g f0 f1 f2 f3 f4 f5 f6) (x : Int) : IsS57 w0 (W.setCell ⟨g, 5, none⟩ (.int .i64 x)) g f0 f1 f2 f3 f4 x f6 := by
  obtain ⟨A1, c1, A2, c2, hb, hg, hr1, hr2⟩ := h
  exact ⟨A1, c1, A2, c2, by simpa using blk_set hb 5 (.int .i64 x), hg, hr1, hr2⟩
theorem cellS57_6 {W : World} {g : Nat} {A1 : Option Addr} {c1 : Nat} {A2 : Option Addr} {c2 : Nat} {f0 : Int} {f1 : List Int} {f2 : List (S39)} {f3 : Int} {f4 : Int} {f5 : Int} {f6 : Int} (h : W.heap[g]? = some (.cells #[.int .i64 f0, .slice A1 f1.length c1, .slice A2 f2.length c2, .int .i64 f3, .int .i64 f4, .int .i64 f5, .int .i64 f6] 57 (0, 0))) : W.cell? ⟨g, 6, none⟩ = some (.int .i64 f6) := (blk_cell h 6).trans rfl
theorem IsS57.set_6 {w0 W : World} {g : Nat} {f0 : Int} {f1 : List Int} {f2 : List (S39)} {f3 : Int} {f4 : Int} {f5 : Int} {f6 : Int} (h : IsS57 w0 W g f0 f1 f2 f3 f4 f5 f6) (x : Int) : IsS57 w0 (W.setCell ⟨g, 6, none⟩ (.int .i64 x)) g f0 f1 f2 f3 f4 f5 x := by
  obtain ⟨A1, c1, A2, c2, hb, hg, hr1, hr2⟩ := h
  exact ⟨A1, c1, A2, c2, by simpa using blk_set hb 6 (.int .i64 x), hg, hr1, hr2⟩
theorem IsS57.new (w0 W : World) (A1 : Option Addr) (c1 : Nat) (A2 : Option Addr) (c2 : Nat) (f0 : Int) (f1 : List Int) (f2 : List (S39)) (f3 : Int) (f4 : Int) (f5 : Int) (f6 : Int) (hB : Below w0.heap.size w0 W) (hr1 : Kd.C (Kd.int .u8) w0 A1 f1.length f1) (hr2 : Kd.C k39 w0 A2 f2.length f2) : IsS57 w0 (W.alloc (.cells #[.int .i64 f0, .slice A1 f1.length c1, .slice A2 f2.length c2, .int .i64 f3, .int .i64 f4, .int .i64 f5, .int .i64 f6] 57)) W.heap.size f0 f1 f2 f3 f4 f5 f6 := ⟨A1, c1, A2, c2, by simpa using heap_alloc_new W _, hB.size, hr1, hr2⟩

/-! ### hand_Hand_want: function 21 -/
def hand_Hand_want.f (s0_0 : Int) (s0_1 : List Int) (s0_2 : List (S39)) (s0_3 : Int) (s0_4 : Int) (s0_5 : Int) (s0_6 : Int) : Option (Int × Int × Int × Int × Int × Int) := if (s0_1.length : Int) < 4 then (some (wrap64 (4 - (s0_1.length : Int)), s0_0, s0_3, s0_4, s0_5, s0_6)) else (some (wrap64 (s0_3 - (s0_1.length : Int)), s0_0, s0_3, s0_4, s0_5, s0_6))
set_option maxHeartbeats 8000000 in
set_option maxRecDepth 100000 in
theorem hand_Hand_want.calls (g : Nat) (s0_0 : Int) (s0_1 : List Int) (s0_2 : List (S39)) (s0_3 : Int) (s0_4 : Int) (s0_5 : Int) (s0_6 : Int) (r1 : Int) (r2 : Int) (r3 : Int) (r4 : Int) (r5 : Int) (r6 : Int) (w0 w : World) (hI : IsS57 w0 w g s0_0 s0_1 s0_2 s0_3 s0_4 s0_5 s0_6) (hB : Below w0.heap.size w0 w) (h : hand_Hand_want.f s0_0 s0_1 s0_2 s0_3 s0_4 s0_5 s0_6 = some (r1, r2, r3, r4, r5, r6)) :
    Calls Try.prog 21 #[.pointer (some ⟨g, 0, none⟩)] w fun e w' => e = .returned (.int .i64 r1) ∧ IsS57 w0 w' g r2 s0_1 s0_2 r3 r4 r5 r6 ∧ Below w0.heap.size w0 w' ∧ KeepBut w w' g none := by
  have HI0 := Aside0.mk hI
  have HK := Aside0.mk (KeepBut.refl w g none)
  have HL := Aside0.mk hB.size
  clear hI
  have HW0 := Aside0.mk hB.size
  have HB := Aside0.mk hB
  clear hB
  have H : (if (s0_1.length : Int) < 4 then (some (wrap64 (4 - (s0_1.length : Int)), s0_0, s0_3, s0_4, s0_5, s0_6)) else (some (wrap64 (s0_3 - (s0_1.length : Int)), s0_0, s0_3, s0_4, s0_5, s0_6))) = some (r1, r2, r3, r4, r5, r6) := h
  clear h
  by_cases c2 : (s0_1.length : Int) < 4
  · rw [if_pos c2] at H
    have c2b0 : decide ((s0_1.length : Int) < 4) = true := decide_eq_true c2
    have c2b1 : decide (s0_1.length < 4) = true := decide_eq_true (by omega)
    clear c2
    simp only [Option.some.injEq, Prod.mk.injEq] at H
    obtain ⟨rfl, rfl, rfl, rfl, rfl, rfl⟩ := H
    obtain ⟨ASz3_1, cSz3_1, ASz3_2, cSz3_2, HGz3, hgz3, HSz3_1, HSz3_2⟩ := HI0.out
    have hcz3_0 := cellS57_0 HGz3
    have hcz3_1 := cellS57_1 HGz3
    have hcz3_2 := cellS57_2 HGz3
    have hcz3_3 := cellS57_3 HGz3
    have hcz3_4 := cellS57_4 HGz3
    have hcz3_5 := cellS57_5 HGz3
    have hcz3_6 := cellS57_6 HGz3
    have hfz3_0 := blk_frozen HGz3 0
    have hfz3_3 := blk_frozen HGz3 3
    have hfz3_4 := blk_frozen HGz3 4
    have hfz3_5 := blk_frozen HGz3 5
    have hfz3_6 := blk_frozen HGz3 6
    clear HGz3 hgz3
    go_enter Try.func21, Try.ntmps21
    go_wp2
    repeat (go_quiet (fail); try go_wp2)
    go_ret
    exact ⟨by first | rfl | (simp [errW_none, errW_some] <;> rfl) | (simp [*, errW_none, errW_some] <;> rfl), by repeat (first | (with_reducible first | exact HI0.out | apply IsS57.alloc | apply IsS57.drewN | apply IsS57.drew | apply IsS57.set_0 | apply IsS57.set_3 | apply IsS57.set_4 | apply IsS57.set_5 | apply IsS57.set_6) | exact HI0.out), by repeat (first | (with_reducible first | exact HB.out | apply below_alloc | apply pw_below_drewN | apply below_drew1 | refine below_set ?_ (IsS57.ge HI0.out)) | exact HB.out), by repeat (first | (with_reducible first | exact HK.out | apply KeepBut.set_ | apply keep_drewN | apply keep_drew | apply keep_alloc) | exact HK.out)⟩
  · rw [if_neg c2] at H
    have c2b0 : decide ((s0_1.length : Int) < 4) = false := decide_eq_false c2
    have c2b1 : decide (s0_1.length < 4) = false := decide_eq_false (by omega)
    clear c2
    simp only [Option.some.injEq, Prod.mk.injEq] at H
    obtain ⟨rfl, rfl, rfl, rfl, rfl, rfl⟩ := H
    obtain ⟨ASz4_1, cSz4_1, ASz4_2, cSz4_2, HGz4, hgz4, HSz4_1, HSz4_2⟩ := HI0.out
    have hcz4_0 := cellS57_0 HGz4
    have hcz4_1 := cellS57_1 HGz4
    have hcz4_2 := cellS57_2 HGz4
    have hcz4_3 := cellS57_3 HGz4
    have hcz4_4 := cellS57_4 HGz4
    have hcz4_5 := cellS57_5 HGz4
    have hcz4_6 := cellS57_6 HGz4
    have hfz4_0 := blk_frozen HGz4 0
    have hfz4_3 := blk_frozen HGz4 3
    have hfz4_4 := blk_frozen HGz4 4
    have hfz4_5 := blk_frozen HGz4 5
    have hfz4_6 := blk_frozen HGz4 6
    clear HGz4 hgz4
    go_enter Try.func21, Try.ntmps21
    go_wp2
    repeat (go_quiet (fail); try go_wp2)
    go_ret
    exact ⟨by first | rfl | (simp [errW_none, errW_some] <;> rfl) | (simp [*, errW_none, errW_some] <;> rfl), by repeat (first | (with_reducible first | exact HI0.out | apply IsS57.alloc | apply IsS57.drewN | apply IsS57.drew | apply IsS57.set_0 | apply IsS57.set_3 | apply IsS57.set_4 | apply IsS57.set_5 | apply IsS57.set_6) | exact HI0.out), by repeat (first | (with_reducible first | exact HB.out | apply below_alloc | apply pw_below_drewN | apply below_drew1 | refine below_set ?_ (IsS57.ge HI0.out)) | exact HB.out), by repeat (first | (with_reducible first | exact HK.out | apply KeepBut.set_ | apply keep_drewN | apply keep_drew | apply keep_alloc) | exact HK.out)⟩

/-! ### codes_Name: by hand -/







/-! ### passepartoutlaw17_most: function 11 -/
def passepartoutlaw17_most.f (a0 : Int) : Option (Int) := some (4 + ((mx 0 a0) % 3000))
set_option maxHeartbeats 8000000 in
set_option maxRecDepth 100000 in
theorem passepartoutlaw17_most.calls (a0 : Int) (r : Int) (w : World) (h : passepartoutlaw17_most.f a0 = some r) :
    Calls Try.prog 11 #[.int .i64 a0] w fun e w' => e = .returned (.int .i64 r) ∧ Below w.heap.size w w' := by
  have HB := Aside0.mk (Below.refl w.heap.size w)
  have H : (some (4 + ((mx 0 a0) % 3000))) = some r := h
  clear h
  obtain ⟨ji2, hji2⟩ : ∃ j_ : Int, (mx 0 a0) = j_ := ⟨_, rfl⟩
  replace H : (some (4 + ((ji2) % 3000))) = some r := by first | (rw [hji2] at H; exact H) | (simp only [hji2] at H ⊢; exact H)
  (try (have hji2l : 0 ≤ ji2 := by (rw [← hji2]; unfold mx; (repeat' split) <;> omega)))
  (try (have hji2m : 0 ≤ ji2 := by omega))
  have hji2_ : (if 0 < a0 then a0 else 0) = ji2 := hji2
  obtain rfl := Option.some.inj H
  go_enter Try.func11, Try.ntmps11
  go_wp2
  go_ret
  exact ⟨by first | rfl | (simp [errW_none, errW_some] <;> rfl) | (simp only [← hji2]; first | rfl | (simp [errW_none, errW_some] <;> rfl)) | (simp [*, errW_none, errW_some] <;> rfl), by repeat (first | (with_reducible first | exact HB.out | apply below_alloc | apply pw_below_drewN | apply below_drew1) | exact HB.out)⟩

/-! ### passepartoutlaw17_place: function 16 -/
def passepartoutlaw17_place.f (a0 : Int) : Option (Int) := some (wrap64 (Int.tmod (IntKind.u64.wrap (a0)) 1099511627776))
set_option maxHeartbeats 8000000 in
set_option maxRecDepth 100000 in
theorem passepartoutlaw17_place.calls (a0 : Int) (r : Int) (w : World) (h : passepartoutlaw17_place.f a0 = some r) :
    Calls Try.prog 16 #[.int .i64 a0] w fun e w' => e = .returned (.int .i64 r) ∧ Drawn0 w w' := by
  have H : (some (wrap64 (Int.tmod (IntKind.u64.wrap (a0)) 1099511627776))) = some r := h
  clear h
  obtain rfl := Option.some.inj H
  go_enter Try.func16, Try.ntmps16
  go_wp2
  go_ret
  exact ⟨by first | rfl | (simp; done) | (simp [*]; done), by repeat (first | exact Drawn0.refl _ | apply Drawn0.step)⟩

/-! ### passepartoutlaw17_great: function 17 -/
def passepartoutlaw17_great.l0 : Nat → List (S46) → Int → List (S46) → Int → Int → Option (Bool)
  | 0, _, _, _, _, _ => none
  | k + 1, x0, x3, x6, x7, x8 => if x8 < x7 then (if 0 ≤ x8 then (if x8 < (x6.length : Int) then (passepartoutlaw17_great.l0 k x0 (wrap64 (x3 + (((rd_T46 x6 x8).f1).length : Int))) x6 x7 (wrap64 (x8 + 1))) else (none)) else (none)) else (if (x0.length : Int) > 100 then (some true) else (some (decide (x3 > 3000))))
def passepartoutlaw17_great.f (k : Nat) (l0 : List (S46)) : Option (Bool) := passepartoutlaw17_great.l0 k l0 0 l0 (l0.length : Int) 0
theorem passepartoutlaw17_great.mono_l : ∀ k, (∀ y0 y1 y2 y3 y4, LeO (passepartoutlaw17_great.l0 k y0 y1 y2 y3 y4) (passepartoutlaw17_great.l0 (k + 1) y0 y1 y2 y3 y4))
  | 0 => fun _ _ _ _ _ r h => by simp [passepartoutlaw17_great.l0] at h
  | k + 1 => by
    have ih0 := passepartoutlaw17_great.mono_l k
    · intro y0 y1 y2 y3 y4
      unfold passepartoutlaw17_great.l0
      repeat' first
      | (with_reducible exact ih0 _ _ _ _ _)
      | (with_reducible exact LeO.refl _)
      | (with_reducible exact LeO.none _)
      | (with_reducible refine LeO.ite ?_ ?_)
      | (with_reducible refine LeO.bind ?_ (fun _ => ?_))
      | exact ih0 _ _ _ _ _
      | exact LeO.none _
      | refine LeO.ite ?_ ?_
      | refine LeO.bind ?_ (fun _ => ?_)
theorem passepartoutlaw17_great.mono : ∀ a0 k, LeO (passepartoutlaw17_great.f k a0) (passepartoutlaw17_great.f (k + 1) a0) := by
  intro a0 k
  have ih0 := passepartoutlaw17_great.mono_l k
  unfold passepartoutlaw17_great.f
  repeat' first
      | (with_reducible exact ih0 _ _ _ _ _)
      | (with_reducible exact LeO.refl _)
      | (with_reducible exact LeO.none _)
      | (with_reducible refine LeO.ite ?_ ?_)
      | (with_reducible refine LeO.bind ?_ (fun _ => ?_))
      | exact ih0 _ _ _ _ _
      | exact LeO.none _
      | refine LeO.ite ?_ ?_
      | refine LeO.bind ?_ (fun _ => ?_)
set_option maxHeartbeats 8000000 in
set_option maxRecDepth 100000 in
theorem passepartoutlaw17_great.calls (k : Nat) (A0 : Option Addr) (c0 : Nat) (l0 : List (S46)) (r : Bool) (w : World) (hr0 : Kd.C k46 w A0 l0.length l0) (hc0 : l0.length ≤ c0) (h : passepartoutlaw17_great.f k l0 = some r) :
    Calls Try.prog 17 #[.slice A0 l0.length c0] w fun e w' => e = .returned (.bool r) ∧ Below w.heap.size w w' := by
  have hu46 := Try.underlying46
  have HR0 := Aside0.mk hr0
  have HC0 := Aside0.mk hc0
  clear hr0 hc0
  have HB := Aside0.mk (Below.refl w.heap.size w)
  have H : (passepartoutlaw17_great.l0 k l0 0 l0 (l0.length : Int) 0) = some r := h
  clear h
  have H' := Aside0.mk H
  clear H
  go_enter Try.func17, Try.ntmps17
  go_wp2
  go_loopg [3, 8] k (fun kq v3 v8 w' => ∃ (x3_1 : Int) (x8_1 : Int), v3 = .int .i64 x3_1 ∧ v8 = .int .i64 x8_1 ∧ Aside0 (passepartoutlaw17_great.l0 kq l0 x3_1 l0 (l0.length : Int) x8_1 = some r) ∧ Aside0 (kq ≤ k) ∧ Aside0 (Below w.heap.size w w'))
  case atStart => exact ⟨(0), (0), (by first | rfl | (simp; done) | (simp [*]; done)), (by first | rfl | (simp; done) | (simp [*]; done)), H', ⟨Nat.le_refl _⟩, ⟨by repeat (first | (with_reducible first | exact HB.out | apply below_alloc | apply pw_below_drewN | apply below_drew1) | exact HB.out)⟩⟩
  case round =>
    clear H'
    try clear c1
    obtain ⟨x3_1, x8_1, rfl, rfl, HA, HK1, HB⟩ := hrel
    cases gk with
    | zero => exact absurd HA.out (by simp [passepartoutlaw17_great.l0])
    | succ k1 =>
      have H := HA.out
      clear HA
      simp only [passepartoutlaw17_great.l0] at H
      by_cases c2 : x8_1 < (l0.length : Int)
      · rw [if_pos c2] at H
        have c2b0 : decide (x8_1 < (l0.length : Int)) = true := decide_eq_true c2
        clear c2
        by_cases c3 : 0 ≤ x8_1
        · rw [if_pos c3] at H
          have c3b0 : decide (0 ≤ x8_1) = true := decide_eq_true c3
          clear c3
          by_cases c4 : x8_1 < (l0.length : Int)
          · rw [if_pos c4] at H
            have c4b0 : decide (x8_1 < (l0.length : Int)) = true := decide_eq_true c4
            clear c4
            have H' := Aside0.mk H
            clear H
            have p107 : 0 ≤ (x8_1 : Int) := of_decide_eq_true (by first | (with_reducible assumption) | assumption)
            have q107 : x8_1 < (l0.length : Int) := of_decide_eq_true (by first | (with_reducible assumption) | assumption)
            obtain ⟨ad107, A107_1, c107_1, e107, hx107_0, hx107_1, hl107_1, hi107_1⟩ := at_T46 HR0.out x8_1 p107 q107
            cases e107
            replace hx107_0 := (HB.out.cell (World.block_lt_of_cell? w _ hx107_0)).trans hx107_0
            replace hx107_1 := (HB.out.cell (World.block_lt_of_cell? w _ hx107_1)).trans hx107_1
            have HR107_1 := Aside0.mk hi107_1
            have HC107_1 := Aside0.mk hl107_1
            clear hi107_1 hl107_1
            replace p107 := eq_true p107
            replace q107 := eq_true q107
            go_wp2_with (first | ((with_reducible refine gate_dst (N := 5) rfl ?_); refine box_event ?hg (N := 5) ?hd (cs := #[.int .i64 0, .slice none 0 0]) (t := 46) ?hr ?_; (case hd => rfl); (case hg => rfl); (case hr => first | (go_simp; done) | (go_simp; rfl)); intro gb108 hg w5 hbox hb; have n0_ := Aside0.mk (below_step (by repeat (first | (with_reducible first | exact HB.out | apply below_alloc | apply pw_below_drewN | apply below_drew1) | exact HB.out)) hb); have n1_ := Aside0.mk (hbox); have n2_ := Aside0.mk ((by rw [hg]; exact (below_size (by repeat (first | (with_reducible first | exact HB.out | apply below_alloc | apply pw_below_drewN | apply below_drew1) | exact HB.out))) : w.heap.size ≤ gb108)); have n3_ := Aside0.mk ((by rw [hg]; exact (below_size (by repeat (first | (with_reducible first | exact HB.out | apply below_alloc | apply pw_below_drewN | apply below_drew1) | exact HB.out))) : w.heap.size ≤ gb108)); clear HB; have HB := n0_; have BK108 := n1_; have GW108 := n2_; have GE108 := n3_; clear n0_ n1_ n2_ n3_; clear hb hbox hg; have hcz6_0 : w5.cell? ⟨gb108, 0, none⟩ = some (.int .i64 0) := (blk_cell BK108.out 0).trans rfl; have hcz6_1 : w5.cell? ⟨gb108, 1, none⟩ = some (.slice none 0 0) := (blk_cell BK108.out 1).trans rfl; have hfz6_0 := blk_frozen BK108.out 0; have hfz6_1 := blk_frozen BK108.out 1))
            go_roundg k1
            case measure => have := HK1.out; omega
            case rel => exact ⟨(wrap64 (x3_1 + (((rd_T46 l0 x8_1).f1).length : Int))), (wrap64 (x8_1 + 1)), (by first | rfl | (simp; done) | (simp [*]; done)), (by first | rfl | (simp; done) | (simp [*]; done)), H', ⟨by have := HK1.out; omega⟩, ⟨by repeat (first | (with_reducible first | exact HB.out | apply below_alloc | apply pw_below_drewN | apply below_drew1 | refine below_set ?_ GE108.out) | exact HB.out)⟩⟩
          · rw [if_neg c4] at H
            exact absurd H (by simp)
        · rw [if_neg c3] at H
          exact absurd H (by simp)
      · rw [if_neg c2] at H
        have c2b0 : decide (x8_1 < (l0.length : Int)) = false := decide_eq_false c2
        clear c2
        by_cases c7 : (l0.length : Int) > 100
        · rw [if_pos c7] at H
          have c7b0 : decide (100 < (l0.length : Int)) = true := decide_eq_true c7
          have c7b1 : decide (100 < l0.length) = true := decide_eq_true (by omega)
          clear c7
          obtain rfl := Option.some.inj H
          go_wp2
          go_ret
          exact ⟨by first | rfl | (simp [errW_none, errW_some] <;> rfl) | (simp [*, errW_none, errW_some] <;> rfl), by repeat (first | (with_reducible first | exact HB.out | apply below_alloc | apply pw_below_drewN | apply below_drew1) | exact HB.out)⟩
        · rw [if_neg c7] at H
          have c7b0 : decide (100 < (l0.length : Int)) = false := decide_eq_false c7
          have c7b1 : decide (100 < l0.length) = false := decide_eq_false (by omega)
          clear c7
          obtain rfl := Option.some.inj H
          go_wp2
          go_ret
          exact ⟨by first | rfl | (simp [errW_none, errW_some] <;> rfl) | (simp [*, errW_none, errW_some] <;> rfl), by repeat (first | (with_reducible first | exact HB.out | apply below_alloc | apply pw_below_drewN | apply below_drew1) | exact HB.out)⟩

/-! ### passepartoutref08_All: function 30 -/
def passepartoutref08_All.f (a0 : Int) : Option ((List (S72))) := if a0 = 0 then (some (([(⟨20, (⟨#[99, 104, 97, 110, 103, 101, 95, 99, 105, 112, 104, 101, 114, 95, 115, 112, 101, 99]⟩ : ByteArray)⟩ : S72), (⟨21, (⟨#[97, 108, 101, 114, 116]⟩ : ByteArray)⟩ : S72), (⟨22, (⟨#[104, 97, 110, 100, 115, 104, 97, 107, 101]⟩ : ByteArray)⟩ : S72), (⟨23, (⟨#[97, 112, 112, 108, 105, 99, 97, 116, 105, 111, 110, 95, 100, 97, 116, 97]⟩ : ByteArray)⟩ : S72)] : List (S72)))) else (if a0 = 1 then (some (([(⟨1, (⟨#[99, 108, 105, 101, 110, 116, 95, 104, 101, 108, 108, 111]⟩ : ByteArray)⟩ : S72), (⟨2, (⟨#[115, 101, 114, 118, 101, 114, 95, 104, 101, 108, 108, 111]⟩ : ByteArray)⟩ : S72), (⟨4, (⟨#[110, 101, 119, 95, 115, 101, 115, 115, 105, 111, 110, 95, 116, 105, 99, 107, 101, 116]⟩ : ByteArray)⟩ : S72), (⟨5, (⟨#[101, 110, 100, 95, 111, 102, 95, 101, 97, 114, 108, 121, 95, 100, 97, 116, 97]⟩ : ByteArray)⟩ : S72), (⟨8, (⟨#[101, 110, 99, 114, 121, 112, 116, 101, 100, 95, 101, 120, 116, 101, 110, 115, 105, 111, 110, 115]⟩ : ByteArray)⟩ : S72), (⟨11, (⟨#[99, 101, 114, 116, 105, 102, 105, 99, 97, 116, 101]⟩ : ByteArray)⟩ : S72), (⟨13, (⟨#[99, 101, 114, 116, 105, 102, 105, 99, 97, 116, 101, 95, 114, 101, 113, 117, 101, 115, 116]⟩ : ByteArray)⟩ : S72), (⟨15, (⟨#[99, 101, 114, 116, 105, 102, 105, 99, 97, 116, 101, 95, 118, 101, 114, 105, 102, 121]⟩ : ByteArray)⟩ : S72), (⟨20, (⟨#[102, 105, 110, 105, 115, 104, 101, 100]⟩ : ByteArray)⟩ : S72), (⟨24, (⟨#[107, 101, 121, 95, 117, 112, 100, 97, 116, 101]⟩ : ByteArray)⟩ : S72)] : List (S72)))) else (if a0 = 2 then (some (([(⟨0, (⟨#[115, 101, 114, 118, 101, 114, 95, 110, 97, 109, 101]⟩ : ByteArray)⟩ : S72), (⟨1, (⟨#[109, 97, 120, 95, 102, 114, 97, 103, 109, 101, 110, 116, 95, 108, 101, 110, 103, 116, 104]⟩ : ByteArray)⟩ : S72), (⟨5, (⟨#[115, 116, 97, 116, 117, 115, 95, 114, 101, 113, 117, 101, 115, 116]⟩ : ByteArray)⟩ : S72), (⟨10, (⟨#[115, 117, 112, 112, 111, 114, 116, 101, 100, 95, 103, 114, 111, 117, 112, 115]⟩ : ByteArray)⟩ : S72), (⟨13, (⟨#[115, 105, 103, 110, 97, 116, 117, 114, 101, 95, 97, 108, 103, 111, 114, 105, 116, 104, 109, 115]⟩ : ByteArray)⟩ : S72), (⟨14, (⟨#[117, 115, 101, 95, 115, 114, 116, 112]⟩ : ByteArray)⟩ : S72), (⟨15, (⟨#[104, 101, 97, 114, 116, 98, 101, 97, 116]⟩ : ByteArray)⟩ : S72), (⟨16, (⟨#[97, 112, 112, 108, 105, 99, 97, 116, 105, 111, 110, 95, 108, 97, 121, 101, 114, 95, 112, 114, 111, 116, 111, 99, 111, 108, 95, 110, 101, 103, 111, 116, 105, 97, 116, 105, 111, 110]⟩ : ByteArray)⟩ : S72), (⟨18, (⟨#[115, 105, 103, 110, 101, 100, 95, 99, 101, 114, 116, 105, 102, 105, 99, 97, 116, 101, 95, 116, 105, 109, 101, 115, 116, 97, 109, 112]⟩ : ByteArray)⟩ : S72), (⟨19, (⟨#[99, 108, 105, 101, 110, 116, 95, 99, 101, 114, 116, 105, 102, 105, 99, 97, 116, 101, 95, 116, 121, 112, 101]⟩ : ByteArray)⟩ : S72), (⟨20, (⟨#[115, 101, 114, 118, 101, 114, 95, 99, 101, 114, 116, 105, 102, 105, 99, 97, 116, 101, 95, 116, 121, 112, 101]⟩ : ByteArray)⟩ : S72), (⟨21, (⟨#[112, 97, 100, 100, 105, 110, 103]⟩ : ByteArray)⟩ : S72), (⟨41, (⟨#[112, 114, 101, 95, 115, 104, 97, 114, 101, 100, 95, 107, 101, 121]⟩ : ByteArray)⟩ : S72), (⟨42, (⟨#[101, 97, 114, 108, 121, 95, 100, 97, 116, 97]⟩ : ByteArray)⟩ : S72), (⟨43, (⟨#[115, 117, 112, 112, 111, 114, 116, 101, 100, 95, 118, 101, 114, 115, 105, 111, 110, 115]⟩ : ByteArray)⟩ : S72), (⟨44, (⟨#[99, 111, 111, 107, 105, 101]⟩ : ByteArray)⟩ : S72), (⟨45, (⟨#[112, 115, 107, 95, 107, 101, 121, 95, 101, 120, 99, 104, 97, 110, 103, 101, 95, 109, 111, 100, 101, 115]⟩ : ByteArray)⟩ : S72), (⟨47, (⟨#[99, 101, 114, 116, 105, 102, 105, 99, 97, 116, 101, 95, 97, 117, 116, 104, 111, 114, 105, 116, 105, 101, 115]⟩ : ByteArray)⟩ : S72), (⟨48, (⟨#[111, 105, 100, 95, 102, 105, 108, 116, 101, 114, 115]⟩ : ByteArray)⟩ : S72), (⟨49, (⟨#[112, 111, 115, 116, 95, 104, 97, 110, 100, 115, 104, 97, 107, 101, 95, 97, 117, 116, 104]⟩ : ByteArray)⟩ : S72), (⟨50, (⟨#[115, 105, 103, 110, 97, 116, 117, 114, 101, 95, 97, 108, 103, 111, 114, 105, 116, 104, 109, 115, 95, 99, 101, 114, 116]⟩ : ByteArray)⟩ : S72), (⟨51, (⟨#[107, 101, 121, 95, 115, 104, 97, 114, 101]⟩ : ByteArray)⟩ : S72)] : List (S72)))) else (some ([] : List (S72)))))
set_option maxHeartbeats 8000000 in
set_option maxRecDepth 100000 in
theorem passepartoutref08_All.calls (a0 : Int) (r : List (S72)) (w : World) (h : passepartoutref08_All.f a0 = some r) :
    Calls Try.prog 30 #[.int .i64 a0] w fun e w' => ∃ v0_ : Value, e = .returned (v0_) ∧ Kd.R k72 72 w' w.heap.size (fun _ => True) v0_ r ∧ Below w.heap.size w w' := by
  have hu72 := Try.underlying72
  have HB := Aside0.mk (Below.refl w.heap.size w)
  have H : (if a0 = 0 then (some (([(⟨20, (⟨#[99, 104, 97, 110, 103, 101, 95, 99, 105, 112, 104, 101, 114, 95, 115, 112, 101, 99]⟩ : ByteArray)⟩ : S72), (⟨21, (⟨#[97, 108, 101, 114, 116]⟩ : ByteArray)⟩ : S72), (⟨22, (⟨#[104, 97, 110, 100, 115, 104, 97, 107, 101]⟩ : ByteArray)⟩ : S72), (⟨23, (⟨#[97, 112, 112, 108, 105, 99, 97, 116, 105, 111, 110, 95, 100, 97, 116, 97]⟩ : ByteArray)⟩ : S72)] : List (S72)))) else (if a0 = 1 then (some (([(⟨1, (⟨#[99, 108, 105, 101, 110, 116, 95, 104, 101, 108, 108, 111]⟩ : ByteArray)⟩ : S72), (⟨2, (⟨#[115, 101, 114, 118, 101, 114, 95, 104, 101, 108, 108, 111]⟩ : ByteArray)⟩ : S72), (⟨4, (⟨#[110, 101, 119, 95, 115, 101, 115, 115, 105, 111, 110, 95, 116, 105, 99, 107, 101, 116]⟩ : ByteArray)⟩ : S72), (⟨5, (⟨#[101, 110, 100, 95, 111, 102, 95, 101, 97, 114, 108, 121, 95, 100, 97, 116, 97]⟩ : ByteArray)⟩ : S72), (⟨8, (⟨#[101, 110, 99, 114, 121, 112, 116, 101, 100, 95, 101, 120, 116, 101, 110, 115, 105, 111, 110, 115]⟩ : ByteArray)⟩ : S72), (⟨11, (⟨#[99, 101, 114, 116, 105, 102, 105, 99, 97, 116, 101]⟩ : ByteArray)⟩ : S72), (⟨13, (⟨#[99, 101, 114, 116, 105, 102, 105, 99, 97, 116, 101, 95, 114, 101, 113, 117, 101, 115, 116]⟩ : ByteArray)⟩ : S72), (⟨15, (⟨#[99, 101, 114, 116, 105, 102, 105, 99, 97, 116, 101, 95, 118, 101, 114, 105, 102, 121]⟩ : ByteArray)⟩ : S72), (⟨20, (⟨#[102, 105, 110, 105, 115, 104, 101, 100]⟩ : ByteArray)⟩ : S72), (⟨24, (⟨#[107, 101, 121, 95, 117, 112, 100, 97, 116, 101]⟩ : ByteArray)⟩ : S72)] : List (S72)))) else (if a0 = 2 then (some (([(⟨0, (⟨#[115, 101, 114, 118, 101, 114, 95, 110, 97, 109, 101]⟩ : ByteArray)⟩ : S72), (⟨1, (⟨#[109, 97, 120, 95, 102, 114, 97, 103, 109, 101, 110, 116, 95, 108, 101, 110, 103, 116, 104]⟩ : ByteArray)⟩ : S72), (⟨5, (⟨#[115, 116, 97, 116, 117, 115, 95, 114, 101, 113, 117, 101, 115, 116]⟩ : ByteArray)⟩ : S72), (⟨10, (⟨#[115, 117, 112, 112, 111, 114, 116, 101, 100, 95, 103, 114, 111, 117, 112, 115]⟩ : ByteArray)⟩ : S72), (⟨13, (⟨#[115, 105, 103, 110, 97, 116, 117, 114, 101, 95, 97, 108, 103, 111, 114, 105, 116, 104, 109, 115]⟩ : ByteArray)⟩ : S72), (⟨14, (⟨#[117, 115, 101, 95, 115, 114, 116, 112]⟩ : ByteArray)⟩ : S72), (⟨15, (⟨#[104, 101, 97, 114, 116, 98, 101, 97, 116]⟩ : ByteArray)⟩ : S72), (⟨16, (⟨#[97, 112, 112, 108, 105, 99, 97, 116, 105, 111, 110, 95, 108, 97, 121, 101, 114, 95, 112, 114, 111, 116, 111, 99, 111, 108, 95, 110, 101, 103, 111, 116, 105, 97, 116, 105, 111, 110]⟩ : ByteArray)⟩ : S72), (⟨18, (⟨#[115, 105, 103, 110, 101, 100, 95, 99, 101, 114, 116, 105, 102, 105, 99, 97, 116, 101, 95, 116, 105, 109, 101, 115, 116, 97, 109, 112]⟩ : ByteArray)⟩ : S72), (⟨19, (⟨#[99, 108, 105, 101, 110, 116, 95, 99, 101, 114, 116, 105, 102, 105, 99, 97, 116, 101, 95, 116, 121, 112, 101]⟩ : ByteArray)⟩ : S72), (⟨20, (⟨#[115, 101, 114, 118, 101, 114, 95, 99, 101, 114, 116, 105, 102, 105, 99, 97, 116, 101, 95, 116, 121, 112, 101]⟩ : ByteArray)⟩ : S72), (⟨21, (⟨#[112, 97, 100, 100, 105, 110, 103]⟩ : ByteArray)⟩ : S72), (⟨41, (⟨#[112, 114, 101, 95, 115, 104, 97, 114, 101, 100, 95, 107, 101, 121]⟩ : ByteArray)⟩ : S72), (⟨42, (⟨#[101, 97, 114, 108, 121, 95, 100, 97, 116, 97]⟩ : ByteArray)⟩ : S72), (⟨43, (⟨#[115, 117, 112, 112, 111, 114, 116, 101, 100, 95, 118, 101, 114, 115, 105, 111, 110, 115]⟩ : ByteArray)⟩ : S72), (⟨44, (⟨#[99, 111, 111, 107, 105, 101]⟩ : ByteArray)⟩ : S72), (⟨45, (⟨#[112, 115, 107, 95, 107, 101, 121, 95, 101, 120, 99, 104, 97, 110, 103, 101, 95, 109, 111, 100, 101, 115]⟩ : ByteArray)⟩ : S72), (⟨47, (⟨#[99, 101, 114, 116, 105, 102, 105, 99, 97, 116, 101, 95, 97, 117, 116, 104, 111, 114, 105, 116, 105, 101, 115]⟩ : ByteArray)⟩ : S72), (⟨48, (⟨#[111, 105, 100, 95, 102, 105, 108, 116, 101, 114, 115]⟩ : ByteArray)⟩ : S72), (⟨49, (⟨#[112, 111, 115, 116, 95, 104, 97, 110, 100, 115, 104, 97, 107, 101, 95, 97, 117, 116, 104]⟩ : ByteArray)⟩ : S72), (⟨50, (⟨#[115, 105, 103, 110, 97, 116, 117, 114, 101, 95, 97, 108, 103, 111, 114, 105, 116, 104, 109, 115, 95, 99, 101, 114, 116]⟩ : ByteArray)⟩ : S72), (⟨51, (⟨#[107, 101, 121, 95, 115, 104, 97, 114, 101]⟩ : ByteArray)⟩ : S72)] : List (S72)))) else (some ([] : List (S72)))))) = some r := h
  clear h
  by_cases c2 : a0 = 0
  · rw [if_pos c2] at H
    have c2b0 : (a0 == 0) = true := beq_iff_eq.mpr c2
    have c2b1 : (a0 != 0) = false := bne_eq_false_iff_eq.mpr c2
    clear c2
    obtain ⟨y109, hy109⟩ : ∃ y_ : List (S72), y_ = (([(⟨20, (⟨#[99, 104, 97, 110, 103, 101, 95, 99, 105, 112, 104, 101, 114, 95, 115, 112, 101, 99]⟩ : ByteArray)⟩ : S72), (⟨21, (⟨#[97, 108, 101, 114, 116]⟩ : ByteArray)⟩ : S72), (⟨22, (⟨#[104, 97, 110, 100, 115, 104, 97, 107, 101]⟩ : ByteArray)⟩ : S72), (⟨23, (⟨#[97, 112, 112, 108, 105, 99, 97, 116, 105, 111, 110, 95, 100, 97, 116, 97]⟩ : ByteArray)⟩ : S72)] : List (S72))) := ⟨_, rfl⟩
    replace H : (some y109) = some r := by first | (rw [hy109]; with_reducible exact H) | (have H2_ := (Option.bind_some _ _).symm.trans H; rw [hy109]; with_reducible exact H2_) | (have H2_ := (Option.bind_some _ _).symm.trans H; with_reducible exact H2_) | with_reducible exact H | (rw [hy109]; exact H) | exact H
    have Ny109 := Aside0.mk hy109
    clear hy109
    obtain rfl := Option.some.inj H
    go_enter Try.func30, Try.ntmps30
    go_wp2_with (first | ((with_reducible refine gate_dst (N := 10) rfl ?_); refine Kd.R_lit k72 _ 72 ?hg (N := 10) ?hd (xs := ([(⟨20, (⟨#[99, 104, 97, 110, 103, 101, 95, 99, 105, 112, 104, 101, 114, 95, 115, 112, 101, 99]⟩ : ByteArray)⟩ : S72), (⟨21, (⟨#[97, 108, 101, 114, 116]⟩ : ByteArray)⟩ : S72), (⟨22, (⟨#[104, 97, 110, 100, 115, 104, 97, 107, 101]⟩ : ByteArray)⟩ : S72), (⟨23, (⟨#[97, 112, 112, 108, 105, 99, 97, 116, 105, 111, 110, 95, 100, 97, 116, 97]⟩ : ByteArray)⟩ : S72)] : List (S72))) (inner := [.int .i64 20, .string (⟨#[99, 104, 97, 110, 103, 101, 95, 99, 105, 112, 104, 101, 114, 95, 115, 112, 101, 99]⟩ : ByteArray), .int .i64 21, .string (⟨#[97, 108, 101, 114, 116]⟩ : ByteArray), .int .i64 22, .string (⟨#[104, 97, 110, 100, 115, 104, 97, 107, 101]⟩ : ByteArray), .int .i64 23, .string (⟨#[97, 112, 112, 108, 105, 99, 97, 116, 105, 111, 110, 95, 100, 97, 116, 97]⟩ : ByteArray)]) (ok := fun _ => True) (okp := fun _ => True) ?hr ?hp (fun _ hk => hk) trivial (Below.refl _ _) (Nat.le_refl _) (by simp) ?_; (case hd => rfl); (case hg => rfl); (case hr => first | (go_simp; done) | (go_simp; rfl)); (case hp => exact (Reps.c2 (show Kd.M k72 _ _ _ (⟨20, (⟨#[99, 104, 97, 110, 103, 101, 95, 99, 105, 112, 104, 101, 114, 95, 115, 112, 101, 99]⟩ : ByteArray)⟩ : S72) [.int .i64 20, .string (⟨#[99, 104, 97, 110, 103, 101, 95, 99, 105, 112, 104, 101, 114, 95, 115, 112, 101, 99]⟩ : ByteArray)] from (k72_mkM _ _ _ (⟨20, (⟨#[99, 104, 97, 110, 103, 101, 95, 99, 105, 112, 104, 101, 114, 95, 115, 112, 101, 99]⟩ : ByteArray)⟩ : S72) )) (Reps.c2 (show Kd.M k72 _ _ _ (⟨21, (⟨#[97, 108, 101, 114, 116]⟩ : ByteArray)⟩ : S72) [.int .i64 21, .string (⟨#[97, 108, 101, 114, 116]⟩ : ByteArray)] from (k72_mkM _ _ _ (⟨21, (⟨#[97, 108, 101, 114, 116]⟩ : ByteArray)⟩ : S72) )) (Reps.c2 (show Kd.M k72 _ _ _ (⟨22, (⟨#[104, 97, 110, 100, 115, 104, 97, 107, 101]⟩ : ByteArray)⟩ : S72) [.int .i64 22, .string (⟨#[104, 97, 110, 100, 115, 104, 97, 107, 101]⟩ : ByteArray)] from (k72_mkM _ _ _ (⟨22, (⟨#[104, 97, 110, 100, 115, 104, 97, 107, 101]⟩ : ByteArray)⟩ : S72) )) (Reps.c2 (show Kd.M k72 _ _ _ (⟨23, (⟨#[97, 112, 112, 108, 105, 99, 97, 116, 105, 111, 110, 95, 100, 97, 116, 97]⟩ : ByteArray)⟩ : S72) [.int .i64 23, .string (⟨#[97, 112, 112, 108, 105, 99, 97, 116, 105, 111, 110, 95, 100, 97, 116, 97]⟩ : ByteArray)] from (k72_mkM _ _ _ (⟨23, (⟨#[97, 112, 112, 108, 105, 99, 97, 116, 105, 111, 110, 95, 100, 97, 116, 97]⟩ : ByteArray)⟩ : S72) )) (Reps.none _ _)))))); intro v110 w3 ho4 hb hg_ hnew_; clear hg_ hnew_; (first | rw [← Ny109.out] at ho4 | (simp only [Int.reduceToNat] at ho4; rw [← Ny109.out] at ho4)); have n0_ := Aside0.mk (Kd.R_lower ho4 (below_size (by repeat (first | (with_reducible first | exact HB.out | apply below_alloc | apply pw_below_drewN | apply below_drew1) | exact HB.out)))); have n1_ := Aside0.mk (below_step (by repeat (first | (with_reducible first | exact HB.out | apply below_alloc | apply pw_below_drewN | apply below_drew1) | exact HB.out)) hb); clear HB; have HO111 := n0_; have HB := n1_; clear n0_ n1_; clear hb ho4))
    go_ret
    exact ⟨_, by first | rfl | (simp [errW_none, errW_some] <;> rfl) | (simp [*, errW_none, errW_some] <;> rfl), by (with_reducible repeat (first | apply Kd.R_alloc | apply Kd.R_drewN | apply Kd.R_drew)); exact HO111.out, by repeat (first | (with_reducible first | exact HB.out | apply below_alloc | apply pw_below_drewN | apply below_drew1) | exact HB.out)⟩
  · rw [if_neg c2] at H
    have c2b0 : (a0 == 0) = false := beq_eq_false_iff_ne.mpr c2
    have c2b1 : (a0 != 0) = true := bne_iff_ne.mpr c2
    by_cases c5 : a0 = 1
    · rw [if_pos c5] at H
      have c5b0 : (a0 == 1) = true := beq_iff_eq.mpr c5
      have c5b1 : (a0 != 1) = false := bne_eq_false_iff_eq.mpr c5
      clear c5
      obtain ⟨y112, hy112⟩ : ∃ y_ : List (S72), y_ = (([(⟨1, (⟨#[99, 108, 105, 101, 110, 116, 95, 104, 101, 108, 108, 111]⟩ : ByteArray)⟩ : S72), (⟨2, (⟨#[115, 101, 114, 118, 101, 114, 95, 104, 101, 108, 108, 111]⟩ : ByteArray)⟩ : S72), (⟨4, (⟨#[110, 101, 119, 95, 115, 101, 115, 115, 105, 111, 110, 95, 116, 105, 99, 107, 101, 116]⟩ : ByteArray)⟩ : S72), (⟨5, (⟨#[101, 110, 100, 95, 111, 102, 95, 101, 97, 114, 108, 121, 95, 100, 97, 116, 97]⟩ : ByteArray)⟩ : S72), (⟨8, (⟨#[101, 110, 99, 114, 121, 112, 116, 101, 100, 95, 101, 120, 116, 101, 110, 115, 105, 111, 110, 115]⟩ : ByteArray)⟩ : S72), (⟨11, (⟨#[99, 101, 114, 116, 105, 102, 105, 99, 97, 116, 101]⟩ : ByteArray)⟩ : S72), (⟨13, (⟨#[99, 101, 114, 116, 105, 102, 105, 99, 97, 116, 101, 95, 114, 101, 113, 117, 101, 115, 116]⟩ : ByteArray)⟩ : S72), (⟨15, (⟨#[99, 101, 114, 116, 105, 102, 105, 99, 97, 116, 101, 95, 118, 101, 114, 105, 102, 121]⟩ : ByteArray)⟩ : S72), (⟨20, (⟨#[102, 105, 110, 105, 115, 104, 101, 100]⟩ : ByteArray)⟩ : S72), (⟨24, (⟨#[107, 101, 121, 95, 117, 112, 100, 97, 116, 101]⟩ : ByteArray)⟩ : S72)] : List (S72))) := ⟨_, rfl⟩
      replace H : (some y112) = some r := by first | (rw [hy112]; with_reducible exact H) | (have H2_ := (Option.bind_some _ _).symm.trans H; rw [hy112]; with_reducible exact H2_) | (have H2_ := (Option.bind_some _ _).symm.trans H; with_reducible exact H2_) | with_reducible exact H | (rw [hy112]; exact H) | exact H
      have Ny112 := Aside0.mk hy112
      clear hy112
      obtain rfl := Option.some.inj H
      go_enter Try.func30, Try.ntmps30
      go_wp2_with (first | ((with_reducible refine gate_dst (N := 23) rfl ?_); refine Kd.R_lit k72 _ 72 ?hg (N := 23) ?hd (xs := ([(⟨1, (⟨#[99, 108, 105, 101, 110, 116, 95, 104, 101, 108, 108, 111]⟩ : ByteArray)⟩ : S72), (⟨2, (⟨#[115, 101, 114, 118, 101, 114, 95, 104, 101, 108, 108, 111]⟩ : ByteArray)⟩ : S72), (⟨4, (⟨#[110, 101, 119, 95, 115, 101, 115, 115, 105, 111, 110, 95, 116, 105, 99, 107, 101, 116]⟩ : ByteArray)⟩ : S72), (⟨5, (⟨#[101, 110, 100, 95, 111, 102, 95, 101, 97, 114, 108, 121, 95, 100, 97, 116, 97]⟩ : ByteArray)⟩ : S72), (⟨8, (⟨#[101, 110, 99, 114, 121, 112, 116, 101, 100, 95, 101, 120, 116, 101, 110, 115, 105, 111, 110, 115]⟩ : ByteArray)⟩ : S72), (⟨11, (⟨#[99, 101, 114, 116, 105, 102, 105, 99, 97, 116, 101]⟩ : ByteArray)⟩ : S72), (⟨13, (⟨#[99, 101, 114, 116, 105, 102, 105, 99, 97, 116, 101, 95, 114, 101, 113, 117, 101, 115, 116]⟩ : ByteArray)⟩ : S72), (⟨15, (⟨#[99, 101, 114, 116, 105, 102, 105, 99, 97, 116, 101, 95, 118, 101, 114, 105, 102, 121]⟩ : ByteArray)⟩ : S72), (⟨20, (⟨#[102, 105, 110, 105, 115, 104, 101, 100]⟩ : ByteArray)⟩ : S72), (⟨24, (⟨#[107, 101, 121, 95, 117, 112, 100, 97, 116, 101]⟩ : ByteArray)⟩ : S72)] : List (S72))) (inner := [.int .i64 1, .string (⟨#[99, 108, 105, 101, 110, 116, 95, 104, 101, 108, 108, 111]⟩ : ByteArray), .int .i64 2, .string (⟨#[115, 101, 114, 118, 101, 114, 95, 104, 101, 108, 108, 111]⟩ : ByteArray), .int .i64 4, .string (⟨#[110, 101, 119, 95, 115, 101, 115, 115, 105, 111, 110, 95, 116, 105, 99, 107, 101, 116]⟩ : ByteArray), .int .i64 5, .string (⟨#[101, 110, 100, 95, 111, 102, 95, 101, 97, 114, 108, 121, 95, 100, 97, 116, 97]⟩ : ByteArray), .int .i64 8, .string (⟨#[101, 110, 99, 114, 121, 112, 116, 101, 100, 95, 101, 120, 116, 101, 110, 115, 105, 111, 110, 115]⟩ : ByteArray), .int .i64 11, .string (⟨#[99, 101, 114, 116, 105, 102, 105, 99, 97, 116, 101]⟩ : ByteArray), .int .i64 13, .string (⟨#[99, 101, 114, 116, 105, 102, 105, 99, 97, 116, 101, 95, 114, 101, 113, 117, 101, 115, 116]⟩ : ByteArray), .int .i64 15, .string (⟨#[99, 101, 114, 116, 105, 102, 105, 99, 97, 116, 101, 95, 118, 101, 114, 105, 102, 121]⟩ : ByteArray), .int .i64 20, .string (⟨#[102, 105, 110, 105, 115, 104, 101, 100]⟩ : ByteArray), .int .i64 24, .string (⟨#[107, 101, 121, 95, 117, 112, 100, 97, 116, 101]⟩ : ByteArray)]) (ok := fun _ => True) (okp := fun _ => True) ?hr ?hp (fun _ hk => hk) trivial (Below.refl _ _) (Nat.le_refl _) (by simp) ?_; (case hd => rfl); (case hg => rfl); (case hr => first | (go_simp; done) | (go_simp; rfl)); (case hp => exact (Reps.c2 (show Kd.M k72 _ _ _ (⟨1, (⟨#[99, 108, 105, 101, 110, 116, 95, 104, 101, 108, 108, 111]⟩ : ByteArray)⟩ : S72) [.int .i64 1, .string (⟨#[99, 108, 105, 101, 110, 116, 95, 104, 101, 108, 108, 111]⟩ : ByteArray)] from (k72_mkM _ _ _ (⟨1, (⟨#[99, 108, 105, 101, 110, 116, 95, 104, 101, 108, 108, 111]⟩ : ByteArray)⟩ : S72) )) (Reps.c2 (show Kd.M k72 _ _ _ (⟨2, (⟨#[115, 101, 114, 118, 101, 114, 95, 104, 101, 108, 108, 111]⟩ : ByteArray)⟩ : S72) [.int .i64 2, .string (⟨#[115, 101, 114, 118, 101, 114, 95, 104, 101, 108, 108, 111]⟩ : ByteArray)] from (k72_mkM _ _ _ (⟨2, (⟨#[115, 101, 114, 118, 101, 114, 95, 104, 101, 108, 108, 111]⟩ : ByteArray)⟩ : S72) )) (Reps.c2 (show Kd.M k72 _ _ _ (⟨4, (⟨#[110, 101, 119, 95, 115, 101, 115, 115, 105, 111, 110, 95, 116, 105, 99, 107, 101, 116]⟩ : ByteArray)⟩ : S72) [.int .i64 4, .string (⟨#[110, 101, 119, 95, 115, 101, 115, 115, 105, 111, 110, 95, 116, 105, 99, 107, 101, 116]⟩ : ByteArray)] from (k72_mkM _ _ _ (⟨4, (⟨#[110, 101, 119, 95, 115, 101, 115, 115, 105, 111, 110, 95, 116, 105, 99, 107, 101, 116]⟩ : ByteArray)⟩ : S72) )) (Reps.c2 (show Kd.M k72 _ _ _ (⟨5, (⟨#[101, 110, 100, 95, 111, 102, 95, 101, 97, 114, 108, 121, 95, 100, 97, 116, 97]⟩ : ByteArray)⟩ : S72) [.int .i64 5, .string (⟨#[101, 110, 100, 95, 111, 102, 95, 101, 97, 114, 108, 121, 95, 100, 97, 116, 97]⟩ : ByteArray)] from (k72_mkM _ _ _ (⟨5, (⟨#[101, 110, 100, 95, 111, 102, 95, 101, 97, 114, 108, 121, 95, 100, 97, 116, 97]⟩ : ByteArray)⟩ : S72) )) (Reps.c2 (show Kd.M k72 _ _ _ (⟨8, (⟨#[101, 110, 99, 114, 121, 112, 116, 101, 100, 95, 101, 120, 116, 101, 110, 115, 105, 111, 110, 115]⟩ : ByteArray)⟩ : S72) [.int .i64 8, .string (⟨#[101, 110, 99, 114, 121, 112, 116, 101, 100, 95, 101, 120, 116, 101, 110, 115, 105, 111, 110, 115]⟩ : ByteArray)] from (k72_mkM _ _ _ (⟨8, (⟨#[101, 110, 99, 114, 121, 112, 116, 101, 100, 95, 101, 120, 116, 101, 110, 115, 105, 111, 110, 115]⟩ : ByteArray)⟩ : S72) )) (Reps.c2 (show Kd.M k72 _ _ _ (⟨11, (⟨#[99, 101, 114, 116, 105, 102, 105, 99, 97, 116, 101]⟩ : ByteArray)⟩ : S72) [.int .i64 11, .string (⟨#[99, 101, 114, 116, 105, 102, 105, 99, 97, 116, 101]⟩ : ByteArray)] from (k72_mkM _ _ _ (⟨11, (⟨#[99, 101, 114, 116, 105, 102, 105, 99, 97, 116, 101]⟩ : ByteArray)⟩ : S72) )) (Reps.c2 (show Kd.M k72 _ _ _ (⟨13, (⟨#[99, 101, 114, 116, 105, 102, 105, 99, 97, 116, 101, 95, 114, 101, 113, 117, 101, 115, 116]⟩ : ByteArray)⟩ : S72) [.int .i64 13, .string (⟨#[99, 101, 114, 116, 105, 102, 105, 99, 97, 116, 101, 95, 114, 101, 113, 117, 101, 115, 116]⟩ : ByteArray)] from (k72_mkM _ _ _ (⟨13, (⟨#[99, 101, 114, 116, 105, 102, 105, 99, 97, 116, 101, 95, 114, 101, 113, 117, 101, 115, 116]⟩ : ByteArray)⟩ : S72) )) (Reps.c2 (show Kd.M k72 _ _ _ (⟨15, (⟨#[99, 101, 114, 116, 105, 102, 105, 99, 97, 116, 101, 95, 118, 101, 114, 105, 102, 121]⟩ : ByteArray)⟩ : S72) [.int .i64 15, .string (⟨#[99, 101, 114, 116, 105, 102, 105, 99, 97, 116, 101, 95, 118, 101, 114, 105, 102, 121]⟩ : ByteArray)] from (k72_mkM _ _ _ (⟨15, (⟨#[99, 101, 114, 116, 105, 102, 105, 99, 97, 116, 101, 95, 118, 101, 114, 105, 102, 121]⟩ : ByteArray)⟩ : S72) )) (Reps.c2 (show Kd.M k72 _ _ _ (⟨20, (⟨#[102, 105, 110, 105, 115, 104, 101, 100]⟩ : ByteArray)⟩ : S72) [.int .i64 20, .string (⟨#[102, 105, 110, 105, 115, 104, 101, 100]⟩ : ByteArray)] from (k72_mkM _ _ _ (⟨20, (⟨#[102, 105, 110, 105, 115, 104, 101, 100]⟩ : ByteArray)⟩ : S72) )) (Reps.c2 (show Kd.M k72 _ _ _ (⟨24, (⟨#[107, 101, 121, 95, 117, 112, 100, 97, 116, 101]⟩ : ByteArray)⟩ : S72) [.int .i64 24, .string (⟨#[107, 101, 121, 95, 117, 112, 100, 97, 116, 101]⟩ : ByteArray)] from (k72_mkM _ _ _ (⟨24, (⟨#[107, 101, 121, 95, 117, 112, 100, 97, 116, 101]⟩ : ByteArray)⟩ : S72) )) (Reps.none _ _)))))))))))); intro v113 w6 ho7 hb hg_ hnew_; clear hg_ hnew_; (first | rw [← Ny112.out] at ho7 | (simp only [Int.reduceToNat] at ho7; rw [← Ny112.out] at ho7)); have n0_ := Aside0.mk (Kd.R_lower ho7 (below_size (by repeat (first | (with_reducible first | exact HB.out | apply below_alloc | apply pw_below_drewN | apply below_drew1) | exact HB.out)))); have n1_ := Aside0.mk (below_step (by repeat (first | (with_reducible first | exact HB.out | apply below_alloc | apply pw_below_drewN | apply below_drew1) | exact HB.out)) hb); clear HB; have HO114 := n0_; have HB := n1_; clear n0_ n1_; clear hb ho7))
      go_ret
      exact ⟨_, by first | rfl | (simp [errW_none, errW_some] <;> rfl) | (simp [*, errW_none, errW_some] <;> rfl), by (with_reducible repeat (first | apply Kd.R_alloc | apply Kd.R_drewN | apply Kd.R_drew)); exact HO114.out, by repeat (first | (with_reducible first | exact HB.out | apply below_alloc | apply pw_below_drewN | apply below_drew1) | exact HB.out)⟩
    · rw [if_neg c5] at H
      have c5b0 : (a0 == 1) = false := beq_eq_false_iff_ne.mpr c5
      have c5b1 : (a0 != 1) = true := bne_iff_ne.mpr c5
      by_cases c8 : a0 = 2
      · rw [if_pos c8] at H
        have c8b0 : (a0 == 2) = true := beq_iff_eq.mpr c8
        have c8b1 : (a0 != 2) = false := bne_eq_false_iff_eq.mpr c8
        clear c8
        obtain ⟨y115, hy115⟩ : ∃ y_ : List (S72), y_ = (([(⟨0, (⟨#[115, 101, 114, 118, 101, 114, 95, 110, 97, 109, 101]⟩ : ByteArray)⟩ : S72), (⟨1, (⟨#[109, 97, 120, 95, 102, 114, 97, 103, 109, 101, 110, 116, 95, 108, 101, 110, 103, 116, 104]⟩ : ByteArray)⟩ : S72), (⟨5, (⟨#[115, 116, 97, 116, 117, 115, 95, 114, 101, 113, 117, 101, 115, 116]⟩ : ByteArray)⟩ : S72), (⟨10, (⟨#[115, 117, 112, 112, 111, 114, 116, 101, 100, 95, 103, 114, 111, 117, 112, 115]⟩ : ByteArray)⟩ : S72), (⟨13, (⟨#[115, 105, 103, 110, 97, 116, 117, 114, 101, 95, 97, 108, 103, 111, 114, 105, 116, 104, 109, 115]⟩ : ByteArray)⟩ : S72), (⟨14, (⟨#[117, 115, 101, 95, 115, 114, 116, 112]⟩ : ByteArray)⟩ : S72), (⟨15, (⟨#[104, 101, 97, 114, 116, 98, 101, 97, 116]⟩ : ByteArray)⟩ : S72), (⟨16, (⟨#[97, 112, 112, 108, 105, 99, 97, 116, 105, 111, 110, 95, 108, 97, 121, 101, 114, 95, 112, 114, 111, 116, 111, 99, 111, 108, 95, 110, 101, 103, 111, 116, 105, 97, 116, 105, 111, 110]⟩ : ByteArray)⟩ : S72), (⟨18, (⟨#[115, 105, 103, 110, 101, 100, 95, 99, 101, 114, 116, 105, 102, 105, 99, 97, 116, 101, 95, 116, 105, 109, 101, 115, 116, 97, 109, 112]⟩ : ByteArray)⟩ : S72), (⟨19, (⟨#[99, 108, 105, 101, 110, 116, 95, 99, 101, 114, 116, 105, 102, 105, 99, 97, 116, 101, 95, 116, 121, 112, 101]⟩ : ByteArray)⟩ : S72), (⟨20, (⟨#[115, 101, 114, 118, 101, 114, 95, 99, 101, 114, 116, 105, 102, 105, 99, 97, 116, 101, 95, 116, 121, 112, 101]⟩ : ByteArray)⟩ : S72), (⟨21, (⟨#[112, 97, 100, 100, 105, 110, 103]⟩ : ByteArray)⟩ : S72), (⟨41, (⟨#[112, 114, 101, 95, 115, 104, 97, 114, 101, 100, 95, 107, 101, 121]⟩ : ByteArray)⟩ : S72), (⟨42, (⟨#[101, 97, 114, 108, 121, 95, 100, 97, 116, 97]⟩ : ByteArray)⟩ : S72), (⟨43, (⟨#[115, 117, 112, 112, 111, 114, 116, 101, 100, 95, 118, 101, 114, 115, 105, 111, 110, 115]⟩ : ByteArray)⟩ : S72), (⟨44, (⟨#[99, 111, 111, 107, 105, 101]⟩ : ByteArray)⟩ : S72), (⟨45, (⟨#[112, 115, 107, 95, 107, 101, 121, 95, 101, 120, 99, 104, 97, 110, 103, 101, 95, 109, 111, 100, 101, 115]⟩ : ByteArray)⟩ : S72), (⟨47, (⟨#[99, 101, 114, 116, 105, 102, 105, 99, 97, 116, 101, 95, 97, 117, 116, 104, 111, 114, 105, 116, 105, 101, 115]⟩ : ByteArray)⟩ : S72), (⟨48, (⟨#[111, 105, 100, 95, 102, 105, 108, 116, 101, 114, 115]⟩ : ByteArray)⟩ : S72), (⟨49, (⟨#[112, 111, 115, 116, 95, 104, 97, 110, 100, 115, 104, 97, 107, 101, 95, 97, 117, 116, 104]⟩ : ByteArray)⟩ : S72), (⟨50, (⟨#[115, 105, 103, 110, 97, 116, 117, 114, 101, 95, 97, 108, 103, 111, 114, 105, 116, 104, 109, 115, 95, 99, 101, 114, 116]⟩ : ByteArray)⟩ : S72), (⟨51, (⟨#[107, 101, 121, 95, 115, 104, 97, 114, 101]⟩ : ByteArray)⟩ : S72)] : List (S72))) := ⟨_, rfl⟩
        replace H : (some y115) = some r := by first | (rw [hy115]; with_reducible exact H) | (have H2_ := (Option.bind_some _ _).symm.trans H; rw [hy115]; with_reducible exact H2_) | (have H2_ := (Option.bind_some _ _).symm.trans H; with_reducible exact H2_) | with_reducible exact H | (rw [hy115]; exact H) | exact H
        have Ny115 := Aside0.mk hy115
        clear hy115
        obtain rfl := Option.some.inj H
        go_enter Try.func30, Try.ntmps30
        go_wp2_with (first | ((with_reducible refine gate_dst (N := 48) rfl ?_); refine Kd.R_lit k72 _ 72 ?hg (N := 48) ?hd (xs := ([(⟨0, (⟨#[115, 101, 114, 118, 101, 114, 95, 110, 97, 109, 101]⟩ : ByteArray)⟩ : S72), (⟨1, (⟨#[109, 97, 120, 95, 102, 114, 97, 103, 109, 101, 110, 116, 95, 108, 101, 110, 103, 116, 104]⟩ : ByteArray)⟩ : S72), (⟨5, (⟨#[115, 116, 97, 116, 117, 115, 95, 114, 101, 113, 117, 101, 115, 116]⟩ : ByteArray)⟩ : S72), (⟨10, (⟨#[115, 117, 112, 112, 111, 114, 116, 101, 100, 95, 103, 114, 111, 117, 112, 115]⟩ : ByteArray)⟩ : S72), (⟨13, (⟨#[115, 105, 103, 110, 97, 116, 117, 114, 101, 95, 97, 108, 103, 111, 114, 105, 116, 104, 109, 115]⟩ : ByteArray)⟩ : S72), (⟨14, (⟨#[117, 115, 101, 95, 115, 114, 116, 112]⟩ : ByteArray)⟩ : S72), (⟨15, (⟨#[104, 101, 97, 114, 116, 98, 101, 97, 116]⟩ : ByteArray)⟩ : S72), (⟨16, (⟨#[97, 112, 112, 108, 105, 99, 97, 116, 105, 111, 110, 95, 108, 97, 121, 101, 114, 95, 112, 114, 111, 116, 111, 99, 111, 108, 95, 110, 101, 103, 111, 116, 105, 97, 116, 105, 111, 110]⟩ : ByteArray)⟩ : S72), (⟨18, (⟨#[115, 105, 103, 110, 101, 100, 95, 99, 101, 114, 116, 105, 102, 105, 99, 97, 116, 101, 95, 116, 105, 109, 101, 115, 116, 97, 109, 112]⟩ : ByteArray)⟩ : S72), (⟨19, (⟨#[99, 108, 105, 101, 110, 116, 95, 99, 101, 114, 116, 105, 102, 105, 99, 97, 116, 101, 95, 116, 121, 112, 101]⟩ : ByteArray)⟩ : S72), (⟨20, (⟨#[115, 101, 114, 118, 101, 114, 95, 99, 101, 114, 116, 105, 102, 105, 99, 97, 116, 101, 95, 116, 121, 112, 101]⟩ : ByteArray)⟩ : S72), (⟨21, (⟨#[112, 97, 100, 100, 105, 110, 103]⟩ : ByteArray)⟩ : S72), (⟨41, (⟨#[112, 114, 101, 95, 115, 104, 97, 114, 101, 100, 95, 107, 101, 121]⟩ : ByteArray)⟩ : S72), (⟨42, (⟨#[101, 97, 114, 108, 121, 95, 100, 97, 116, 97]⟩ : ByteArray)⟩ : S72), (⟨43, (⟨#[115, 117, 112, 112, 111, 114, 116, 101, 100, 95, 118, 101, 114, 115, 105, 111, 110, 115]⟩ : ByteArray)⟩ : S72), (⟨44, (⟨#[99, 111, 111, 107, 105, 101]⟩ : ByteArray)⟩ : S72), (⟨45, (⟨#[112, 115, 107, 95, 107, 101, 121, 95, 101, 120, 99, 104, 97, 110, 103, 101, 95, 109, 111, 100, 101, 115]⟩ : ByteArray)⟩ : S72), (⟨47, (⟨#[99, 101, 114, 116, 105, 102, 105, 99, 97, 116, 101, 95, 97, 117, 116, 104, 111, 114, 105, 116, 105, 101, 115]⟩ : ByteArray)⟩ : S72), (⟨48, (⟨#[111, 105, 100, 95, 102, 105, 108, 116, 101, 114, 115]⟩ : ByteArray)⟩ : S72), (⟨49, (⟨#[112, 111, 115, 116, 95, 104, 97, 110, 100, 115, 104, 97, 107, 101, 95, 97, 117, 116, 104]⟩ : ByteArray)⟩ : S72), (⟨50, (⟨#[115, 105, 103, 110, 97, 116, 117, 114, 101, 95, 97, 108, 103, 111, 114, 105, 116, 104, 109, 115, 95, 99, 101, 114, 116]⟩ : ByteArray)⟩ : S72), (⟨51, (⟨#[107, 101, 121, 95, 115, 104, 97, 114, 101]⟩ : ByteArray)⟩ : S72)] : List (S72))) (inner := [.int .i64 0, .string (⟨#[115, 101, 114, 118, 101, 114, 95, 110, 97, 109, 101]⟩ : ByteArray), .int .i64 1, .string (⟨#[109, 97, 120, 95, 102, 114, 97, 103, 109, 101, 110, 116, 95, 108, 101, 110, 103, 116, 104]⟩ : ByteArray), .int .i64 5, .string (⟨#[115, 116, 97, 116, 117, 115, 95, 114, 101, 113, 117, 101, 115, 116]⟩ : ByteArray), .int .i64 10, .string (⟨#[115, 117, 112, 112, 111, 114, 116, 101, 100, 95, 103, 114, 111, 117, 112, 115]⟩ : ByteArray), .int .i64 13, .string (⟨#[115, 105, 103, 110, 97, 116, 117, 114, 101, 95, 97, 108, 103, 111, 114, 105, 116, 104, 109, 115]⟩ : ByteArray), .int .i64 14, .string (⟨#[117, 115, 101, 95, 115, 114, 116, 112]⟩ : ByteArray), .int .i64 15, .string (⟨#[104, 101, 97, 114, 116, 98, 101, 97, 116]⟩ : ByteArray), .int .i64 16, .string (⟨#[97, 112, 112, 108, 105, 99, 97, 116, 105, 111, 110, 95, 108, 97, 121, 101, 114, 95, 112, 114, 111, 116, 111, 99, 111, 108, 95, 110, 101, 103, 111, 116, 105, 97, 116, 105, 111, 110]⟩ : ByteArray), .int .i64 18, .string (⟨#[115, 105, 103, 110, 101, 100, 95, 99, 101, 114, 116, 105, 102, 105, 99, 97, 116, 101, 95, 116, 105, 109, 101, 115, 116, 97, 109, 112]⟩ : ByteArray), .int .i64 19, .string (⟨#[99, 108, 105, 101, 110, 116, 95, 99, 101, 114, 116, 105, 102, 105, 99, 97, 116, 101, 95, 116, 121, 112, 101]⟩ : ByteArray), .int .i64 20, .string (⟨#[115, 101, 114, 118, 101, 114, 95, 99, 101, 114, 116, 105, 102, 105, 99, 97, 116, 101, 95, 116, 121, 112, 101]⟩ : ByteArray), .int .i64 21, .string (⟨#[112, 97, 100, 100, 105, 110, 103]⟩ : ByteArray), .int .i64 41, .string (⟨#[112, 114, 101, 95, 115, 104, 97, 114, 101, 100, 95, 107, 101, 121]⟩ : ByteArray), .int .i64 42, .string (⟨#[101, 97, 114, 108, 121, 95, 100, 97, 116, 97]⟩ : ByteArray), .int .i64 43, .string (⟨#[115, 117, 112, 112, 111, 114, 116, 101, 100, 95, 118, 101, 114, 115, 105, 111, 110, 115]⟩ : ByteArray), .int .i64 44, .string (⟨#[99, 111, 111, 107, 105, 101]⟩ : ByteArray), .int .i64 45, .string (⟨#[112, 115, 107, 95, 107, 101, 121, 95, 101, 120, 99, 104, 97, 110, 103, 101, 95, 109, 111, 100, 101, 115]⟩ : ByteArray), .int .i64 47, .string (⟨#[99, 101, 114, 116, 105, 102, 105, 99, 97, 116, 101, 95, 97, 117, 116, 104, 111, 114, 105, 116, 105, 101, 115]⟩ : ByteArray), .int .i64 48, .string (⟨#[111, 105, 100, 95, 102, 105, 108, 116, 101, 114, 115]⟩ : ByteArray), .int .i64 49, .string (⟨#[112, 111, 115, 116, 95, 104, 97, 110, 100, 115, 104, 97, 107, 101, 95, 97, 117, 116, 104]⟩ : ByteArray), .int .i64 50, .string (⟨#[115, 105, 103, 110, 97, 116, 117, 114, 101, 95, 97, 108, 103, 111, 114, 105, 116, 104, 109, 115, 95, 99, 101, 114, 116]⟩ : ByteArray), .int .i64 51, .string (⟨#[107, 101, 121, 95, 115, 104, 97, 114, 101]⟩ : ByteArray)]) (ok := fun _ => True) (okp := fun _ => True) ?hr ?hp (fun _ hk => hk) trivial (Below.refl _ _) (Nat.le_refl _) (by simp) ?_; (case hd => rfl); (case hg => rfl); (case hr => first | (go_simp; done) | (go_simp; rfl)); (case hp => exact (Reps.c2 (show Kd.M k72 _ _ _ (⟨0, (⟨#[115, 101, 114, 118, 101, 114, 95, 110, 97, 109, 101]⟩ : ByteArray)⟩ : S72) [.int .i64 0, .string (⟨#[115, 101, 114, 118, 101, 114, 95, 110, 97, 109, 101]⟩ : ByteArray)] from (k72_mkM _ _ _ (⟨0, (⟨#[115, 101, 114, 118, 101, 114, 95, 110, 97, 109, 101]⟩ : ByteArray)⟩ : S72) )) (Reps.c2 (show Kd.M k72 _ _ _ (⟨1, (⟨#[109, 97, 120, 95, 102, 114, 97, 103, 109, 101, 110, 116, 95, 108, 101, 110, 103, 116, 104]⟩ : ByteArray)⟩ : S72) [.int .i64 1, .string (⟨#[109, 97, 120, 95, 102, 114, 97, 103, 109, 101, 110, 116, 95, 108, 101, 110, 103, 116, 104]⟩ : ByteArray)] from (k72_mkM _ _ _ (⟨1, (⟨#[109, 97, 120, 95, 102, 114, 97, 103, 109, 101, 110, 116, 95, 108, 101, 110, 103, 116, 104]⟩ : ByteArray)⟩ : S72) )) (Reps.c2 (show Kd.M k72 _ _ _ (⟨5, (⟨#[115, 116, 97, 116, 117, 115, 95, 114, 101, 113, 117, 101, 115, 116]⟩ : ByteArray)⟩ : S72) [.int .i64 5, .string (⟨#[115, 116, 97, 116, 117, 115, 95, 114, 101, 113, 117, 101, 115, 116]⟩ : ByteArray)] from (k72_mkM _ _ _ (⟨5, (⟨#[115, 116, 97, 116, 117, 115, 95, 114, 101, 113, 117, 101, 115, 116]⟩ : ByteArray)⟩ : S72) )) (Reps.c2 (show Kd.M k72 _ _ _ (⟨10, (⟨#[115, 117, 112, 112, 111, 114, 116, 101, 100, 95, 103, 114, 111, 117, 112, 115]⟩ : ByteArray)⟩ : S72) [.int .i64 10, .string (⟨#[115, 117, 112, 112, 111, 114, 116, 101, 100, 95, 103, 114, 111, 117, 112, 115]⟩ : ByteArray)] from (k72_mkM _ _ _ (⟨10, (⟨#[115, 117, 112, 112, 111, 114, 116, 101, 100, 95, 103, 114, 111, 117, 112, 115]⟩ : ByteArray)⟩ : S72) )) (Reps.c2 (show Kd.M k72 _ _ _ (⟨13, (⟨#[115, 105, 103, 110, 97, 116, 117, 114, 101, 95, 97, 108, 103, 111, 114, 105, 116, 104, 109, 115]⟩ : ByteArray)⟩ : S72) [.int .i64 13, .string (⟨#[115, 105, 103, 110, 97, 116, 117, 114, 101, 95, 97, 108, 103, 111, 114, 105, 116, 104, 109, 115]⟩ : ByteArray)] from (k72_mkM _ _ _ (⟨13, (⟨#[115, 105, 103, 110, 97, 116, 117, 114, 101, 95, 97, 108, 103, 111, 114, 105, 116, 104, 109, 115]⟩ : ByteArray)⟩ : S72) )) (Reps.c2 (show Kd.M k72 _ _ _ (⟨14, (⟨#[117, 115, 101, 95, 115, 114, 116, 112]⟩ : ByteArray)⟩ : S72) [.int .i64 14, .string (⟨#[117, 115, 101, 95, 115, 114, 116, 112]⟩ : ByteArray)] from (k72_mkM _ _ _ (⟨14, (⟨#[117, 115, 101, 95, 115, 114, 116, 112]⟩ : ByteArray)⟩ : S72) )) (Reps.c2 (show Kd.M k72 _ _ _ (⟨15, (⟨#[104, 101, 97, 114, 116, 98, 101, 97, 116]⟩ : ByteArray)⟩ : S72) [.int .i64 15, .string (⟨#[104, 101, 97, 114, 116, 98, 101, 97, 116]⟩ : ByteArray)] from (k72_mkM _ _ _ (⟨15, (⟨#[104, 101, 97, 114, 116, 98, 101, 97, 116]⟩ : ByteArray)⟩ : S72) )) (Reps.c2 (show Kd.M k72 _ _ _ (⟨16, (⟨#[97, 112, 112, 108, 105, 99, 97, 116, 105, 111, 110, 95, 108, 97, 121, 101, 114, 95, 112, 114, 111, 116, 111, 99, 111, 108, 95, 110, 101, 103, 111, 116, 105, 97, 116, 105, 111, 110]⟩ : ByteArray)⟩ : S72) [.int .i64 16, .string (⟨#[97, 112, 112, 108, 105, 99, 97, 116, 105, 111, 110, 95, 108, 97, 121, 101, 114, 95, 112, 114, 111, 116, 111, 99, 111, 108, 95, 110, 101, 103, 111, 116, 105, 97, 116, 105, 111, 110]⟩ : ByteArray)] from (k72_mkM _ _ _ (⟨16, (⟨#[97, 112, 112, 108, 105, 99, 97, 116, 105, 111, 110, 95, 108, 97, 121, 101, 114, 95, 112, 114, 111, 116, 111, 99, 111, 108, 95, 110, 101, 103, 111, 116, 105, 97, 116, 105, 111, 110]⟩ : ByteArray)⟩ : S72) )) (Reps.c2 (show Kd.M k72 _ _ _ (⟨18, (⟨#[115, 105, 103, 110, 101, 100, 95, 99, 101, 114, 116, 105, 102, 105, 99, 97, 116, 101, 95, 116, 105, 109, 101, 115, 116, 97, 109, 112]⟩ : ByteArray)⟩ : S72) [.int .i64 18, .string (⟨#[115, 105, 103, 110, 101, 100, 95, 99, 101, 114, 116, 105, 102, 105, 99, 97, 116, 101, 95, 116, 105, 109, 101, 115, 116, 97, 109, 112]⟩ : ByteArray)] from (k72_mkM _ _ _ (⟨18, (⟨#[115, 105, 103, 110, 101, 100, 95, 99, 101, 114, 116, 105, 102, 105, 99, 97, 116, 101, 95, 116, 105, 109, 101, 115, 116, 97, 109, 112]⟩ : ByteArray)⟩ : S72) )) (Reps.c2 (show Kd.M k72 _ _ _ (⟨19, (⟨#[99, 108, 105, 101, 110, 116, 95, 99, 101, 114, 116, 105, 102, 105, 99, 97, 116, 101, 95, 116, 121, 112, 101]⟩ : ByteArray)⟩ : S72) [.int .i64 19, .string (⟨#[99, 108, 105, 101, 110, 116, 95, 99, 101, 114, 116, 105, 102, 105, 99, 97, 116, 101, 95, 116, 121, 112, 101]⟩ : ByteArray)] from (k72_mkM _ _ _ (⟨19, (⟨#[99, 108, 105, 101, 110, 116, 95, 99, 101, 114, 116, 105, 102, 105, 99, 97, 116, 101, 95, 116, 121, 112, 101]⟩ : ByteArray)⟩ : S72) )) (Reps.c2 (show Kd.M k72 _ _ _ (⟨20, (⟨#[115, 101, 114, 118, 101, 114, 95, 99, 101, 114, 116, 105, 102, 105, 99, 97, 116, 101, 95, 116, 121, 112, 101]⟩ : ByteArray)⟩ : S72) [.int .i64 20, .string (⟨#[115, 101, 114, 118, 101, 114, 95, 99, 101, 114, 116, 105, 102, 105, 99, 97, 116, 101, 95, 116, 121, 112, 101]⟩ : ByteArray)] from (k72_mkM _ _ _ (⟨20, (⟨#[115, 101, 114, 118, 101, 114, 95, 99, 101, 114, 116, 105, 102, 105, 99, 97, 116, 101, 95, 116, 121, 112, 101]⟩ : ByteArray)⟩ : S72) )) (Reps.c2 (show Kd.M k72 _ _ _ (⟨21, (⟨#[112, 97, 100, 100, 105, 110, 103]⟩ : ByteArray)⟩ : S72) [.int .i64 21, .string (⟨#[112, 97, 100, 100, 105, 110, 103]⟩ : ByteArray)] from (k72_mkM _ _ _ (⟨21, (⟨#[112, 97, 100, 100, 105, 110, 103]⟩ : ByteArray)⟩ : S72) )) (Reps.c2 (show Kd.M k72 _ _ _ (⟨41, (⟨#[112, 114, 101, 95, 115, 104, 97, 114, 101, 100, 95, 107, 101, 121]⟩ : ByteArray)⟩ : S72) [.int .i64 41, .string (⟨#[112, 114, 101, 95, 115, 104, 97, 114, 101, 100, 95, 107, 101, 121]⟩ : ByteArray)] from (k72_mkM _ _ _ (⟨41, (⟨#[112, 114, 101, 95, 115, 104, 97, 114, 101, 100, 95, 107, 101, 121]⟩ : ByteArray)⟩ : S72) )) (Reps.c2 (show Kd.M k72 _ _ _ (⟨42, (⟨#[101, 97, 114, 108, 121, 95, 100, 97, 116, 97]⟩ : ByteArray)⟩ : S72) [.int .i64 42, .string (⟨#[101, 97, 114, 108, 121, 95, 100, 97, 116, 97]⟩ : ByteArray)] from (k72_mkM _ _ _ (⟨42, (⟨#[101, 97, 114, 108, 121, 95, 100, 97, 116, 97]⟩ : ByteArray)⟩ : S72) )) (Reps.c2 (show Kd.M k72 _ _ _ (⟨43, (⟨#[115, 117, 112, 112, 111, 114, 116, 101, 100, 95, 118, 101, 114, 115, 105, 111, 110, 115]⟩ : ByteArray)⟩ : S72) [.int .i64 43, .string (⟨#[115, 117, 112, 112, 111, 114, 116, 101, 100, 95, 118, 101, 114, 115, 105, 111, 110, 115]⟩ : ByteArray)] from (k72_mkM _ _ _ (⟨43, (⟨#[115, 117, 112, 112, 111, 114, 116, 101, 100, 95, 118, 101, 114, 115, 105, 111, 110, 115]⟩ : ByteArray)⟩ : S72) )) (Reps.c2 (show Kd.M k72 _ _ _ (⟨44, (⟨#[99, 111, 111, 107, 105, 101]⟩ : ByteArray)⟩ : S72) [.int .i64 44, .string (⟨#[99, 111, 111, 107, 105, 101]⟩ : ByteArray)] from (k72_mkM _ _ _ (⟨44, (⟨#[99, 111, 111, 107, 105, 101]⟩ : ByteArray)⟩ : S72) )) (Reps.c2 (show Kd.M k72 _ _ _ (⟨45, (⟨#[112, 115, 107, 95, 107, 101, 121, 95, 101, 120, 99, 104, 97, 110, 103, 101, 95, 109, 111, 100, 101, 115]⟩ : ByteArray)⟩ : S72) [.int .i64 45, .string (⟨#[112, 115, 107, 95, 107, 101, 121, 95, 101, 120, 99, 104, 97, 110, 103, 101, 95, 109, 111, 100, 101, 115]⟩ : ByteArray)] from (k72_mkM _ _ _ (⟨45, (⟨#[112, 115, 107, 95, 107, 101, 121, 95, 101, 120, 99, 104, 97, 110, 103, 101, 95, 109, 111, 100, 101, 115]⟩ : ByteArray)⟩ : S72) )) (Reps.c2 (show Kd.M k72 _ _ _ (⟨47, (⟨#[99, 101, 114, 116, 105, 102, 105, 99, 97, 116, 101, 95, 97, 117, 116, 104, 111, 114, 105, 116, 105, 101, 115]⟩ : ByteArray)⟩ : S72) [.int .i64 47, .string (⟨#[99, 101, 114, 116, 105, 102, 105, 99, 97, 116, 101, 95, 97, 117, 116, 104, 111, 114, 105, 116, 105, 101, 115]⟩ : ByteArray)] from (k72_mkM _ _ _ (⟨47, (⟨#[99, 101, 114, 116, 105, 102, 105, 99, 97, 116, 101, 95, 97, 117, 116, 104, 111, 114, 105, 116, 105, 101, 115]⟩ : ByteArray)⟩ : S72) )) (Reps.c2 (show Kd.M k72 _ _ _ (⟨48, (⟨#[111, 105, 100, 95, 102, 105, 108, 116, 101, 114, 115]⟩ : ByteArray)⟩ : S72) [.int .i64 48, .string (⟨#[111, 105, 100, 95, 102, 105, 108, 116, 101, 114, 115]⟩ : ByteArray)] from (k72_mkM _ _ _ (⟨48, (⟨#[111, 105, 100, 95, 102, 105, 108, 116, 101, 114, 115]⟩ : ByteArray)⟩ : S72) )) (Reps.c2 (show Kd.M k72 _ _ _ (⟨49, (⟨#[112, 111, 115, 116, 95, 104, 97, 110, 100, 115, 104, 97, 107, 101, 95, 97, 117, 116, 104]⟩ : ByteArray)⟩ : S72) [.int .i64 49, .string (⟨#[112, 111, 115, 116, 95, 104, 97, 110, 100, 115, 104, 97, 107, 101, 95, 97, 117, 116, 104]⟩ : ByteArray)] from (k72_mkM _ _ _ (⟨49, (⟨#[112, 111, 115, 116, 95, 104, 97, 110, 100, 115, 104, 97, 107, 101, 95, 97, 117, 116, 104]⟩ : ByteArray)⟩ : S72) )) (Reps.c2 (show Kd.M k72 _ _ _ (⟨50, (⟨#[115, 105, 103, 110, 97, 116, 117, 114, 101, 95, 97, 108, 103, 111, 114, 105, 116, 104, 109, 115, 95, 99, 101, 114, 116]⟩ : ByteArray)⟩ : S72) [.int .i64 50, .string (⟨#[115, 105, 103, 110, 97, 116, 117, 114, 101, 95, 97, 108, 103, 111, 114, 105, 116, 104, 109, 115, 95, 99, 101, 114, 116]⟩ : ByteArray)] from (k72_mkM _ _ _ (⟨50, (⟨#[115, 105, 103, 110, 97, 116, 117, 114, 101, 95, 97, 108, 103, 111, 114, 105, 116, 104, 109, 115, 95, 99, 101, 114, 116]⟩ : ByteArray)⟩ : S72) )) (Reps.c2 (show Kd.M k72 _ _ _ (⟨51, (⟨#[107, 101, 121, 95, 115, 104, 97, 114, 101]⟩ : ByteArray)⟩ : S72) [.int .i64 51, .string (⟨#[107, 101, 121, 95, 115, 104, 97, 114, 101]⟩ : ByteArray)] from (k72_mkM _ _ _ (⟨51, (⟨#[107, 101, 121, 95, 115, 104, 97, 114, 101]⟩ : ByteArray)⟩ : S72) )) (Reps.none _ _)))))))))))))))))))))))); intro v116 w9 ho10 hb hg_ hnew_; clear hg_ hnew_; (first | rw [← Ny115.out] at ho10 | (simp only [Int.reduceToNat] at ho10; rw [← Ny115.out] at ho10)); have n0_ := Aside0.mk (Kd.R_lower ho10 (below_size (by repeat (first | (with_reducible first | exact HB.out | apply below_alloc | apply pw_below_drewN | apply below_drew1) | exact HB.out)))); have n1_ := Aside0.mk (below_step (by repeat (first | (with_reducible first | exact HB.out | apply below_alloc | apply pw_below_drewN | apply below_drew1) | exact HB.out)) hb); clear HB; have HO117 := n0_; have HB := n1_; clear n0_ n1_; clear hb ho10))
        go_ret
        exact ⟨_, by first | rfl | (simp [errW_none, errW_some] <;> rfl) | (simp [*, errW_none, errW_some] <;> rfl), by (with_reducible repeat (first | apply Kd.R_alloc | apply Kd.R_drewN | apply Kd.R_drew)); exact HO117.out, by repeat (first | (with_reducible first | exact HB.out | apply below_alloc | apply pw_below_drewN | apply below_drew1) | exact HB.out)⟩
      · rw [if_neg c8] at H
        have c8b0 : (a0 == 2) = false := beq_eq_false_iff_ne.mpr c8
        have c8b1 : (a0 != 2) = true := bne_iff_ne.mpr c8
        obtain rfl := Option.some.inj H
        go_enter Try.func30, Try.ntmps30
        go_wp2
        go_ret
        exact ⟨_, by first | rfl | (simp [errW_none, errW_some] <;> rfl) | (simp [*, errW_none, errW_some] <;> rfl), by first | exact Kd.R_nil _ _ _ _ _ | exact Kd.N_nil _ _ _ _ _ | exact Kd.V_nil _ _ _ _ _ | exact Kd.Q_nil _ _ _ _ _ | exact Kd.S_nil _ _ _ _ _, by repeat (first | (with_reducible first | exact HB.out | apply below_alloc | apply pw_below_drewN | apply below_drew1) | exact HB.out)⟩

/-! ### passepartoutref08_Name: function 25 -/
def passepartoutref08_Name.l0 : Nat → Int → List (S72) → Int → Option (ByteArray × Bool)
  | 0, _, _, _ => none
  | k + 1, x1, x6, x7 => if x7 < (x6.length : Int) then (if 0 ≤ x7 then (if ((rd_T72 x6 x7).f0) = x1 then (some ((rd_T72 x6 x7).f1, true)) else (passepartoutref08_Name.l0 k x1 x6 (wrap64 (x7 + 1)))) else (none)) else (some ((⟨#[]⟩ : ByteArray), false))
def passepartoutref08_Name.f (k : Nat) (a0 : Int) (a1 : Int) : Option (ByteArray × Bool) := (passepartoutref08_All.f a0).bind fun t118 => (passepartoutref08_Name.l0 k a1 t118 0)
theorem passepartoutref08_Name.mono_l : ∀ k, (∀ y0 y1 y2, LeO (passepartoutref08_Name.l0 k y0 y1 y2) (passepartoutref08_Name.l0 (k + 1) y0 y1 y2))
  | 0 => fun _ _ _ r h => by simp [passepartoutref08_Name.l0] at h
  | k + 1 => by
    have ih0 := passepartoutref08_Name.mono_l k
    · intro y0 y1 y2
      unfold passepartoutref08_Name.l0
      repeat' first
      | (with_reducible exact ih0 _ _ _)
      | (with_reducible exact LeO.refl _)
      | (with_reducible exact LeO.none _)
      | (with_reducible refine LeO.ite ?_ ?_)
      | (with_reducible refine LeO.bind ?_ (fun _ => ?_))
      | exact ih0 _ _ _
      | exact LeO.none _
      | refine LeO.ite ?_ ?_
      | refine LeO.bind ?_ (fun _ => ?_)
theorem passepartoutref08_Name.mono : ∀ a0 a1 k, LeO (passepartoutref08_Name.f k a0 a1) (passepartoutref08_Name.f (k + 1) a0 a1) := by
  intro a0 a1 k
  have ih0 := passepartoutref08_Name.mono_l k
  unfold passepartoutref08_Name.f
  repeat' first
      | (with_reducible exact ih0 _ _ _)
      | (with_reducible exact LeO.refl _)
      | (with_reducible exact LeO.none _)
      | (with_reducible refine LeO.ite ?_ ?_)
      | (with_reducible refine LeO.bind ?_ (fun _ => ?_))
      | exact ih0 _ _ _
      | exact LeO.none _
      | refine LeO.ite ?_ ?_
      | refine LeO.bind ?_ (fun _ => ?_)
set_option maxHeartbeats 8000000 in
set_option maxRecDepth 100000 in
theorem passepartoutref08_Name.calls (k : Nat) (a0 : Int) (a1 : Int) (r1 : ByteArray) (r2 : Bool) (w : World) (h : passepartoutref08_Name.f k a0 a1 = some (r1, r2)) :
    Calls Try.prog 25 #[.int .i64 a0, .int .i64 a1] w fun e w' => e = .returned (.tuple #[.string r1, .bool r2]) ∧ Below w.heap.size w w' := by
  have HB := Aside0.mk (Below.refl w.heap.size w)
  have H : ((passepartoutref08_All.f a0).bind fun t118 => (passepartoutref08_Name.l0 k a1 t118 0)) = some (r1, r2) := h
  clear h
  replace H := Option.bind_eq_some_iff.mp H
  obtain ⟨t118, A30, H⟩ := H
  replace H : (passepartoutref08_Name.l0 k a1 t118 0) = some (r1, r2) := H
  have A3 := Aside0.mk A30
  clear A30
  have H' := Aside0.mk H
  clear H
  go_enter Try.func25, Try.ntmps25
  go_wp2_with (first | ((with_reducible refine gate_callee (f := 30) rfl ?_); refine goesL_ (some 9) rfl rfl Try.func30 (by kernel_rfl) rfl #[.int .i64 a0] rfl (by (try simp only [List.map_toArray, List.map_cons, List.map_nil]); first | done | rfl | (simp only [List.length_drop, List.length_take]; rfl)) ?_; (with_reducible refine (passepartoutref08_All.calls a0 t118 _ A3.out).mono ?_); rintro e w4 ⟨v119, rfl, ho0, hb⟩; refine ⟨_, rfl, ?_⟩; have n0_ := Aside0.mk (Kd.R_lower ho0 (below_size (by repeat (first | (with_reducible first | exact HB.out | apply below_alloc | apply pw_below_drewN | apply below_drew1) | exact HB.out)))); have n1_ := Aside0.mk (below_step (by repeat (first | (with_reducible first | exact HB.out | apply below_alloc | apply pw_below_drewN | apply below_drew1) | exact HB.out)) hb); clear HB; have HO120 := n0_; have HB := n1_; clear n0_ n1_; (try clear hb); (try clear hb2); (try clear hk); (try clear hi); (try clear ho0)))
  go_loopg [7] k (fun kq v7 w' => ∃ (x7_1 : Int), v7 = .int .i64 x7_1 ∧ Aside0 (passepartoutref08_Name.l0 kq a1 t118 x7_1 = some (r1, r2)) ∧ Aside0 (kq ≤ k) ∧ Aside0 (Kd.R k72 72 w' w.heap.size (fun _ => True) v119 t118) ∧ Aside0 (Below w.heap.size w w'))
  case atStart => exact ⟨(0), (by first | rfl | (simp; done) | (simp [*]; done)), H', ⟨Nat.le_refl _⟩, ⟨by (with_reducible repeat (first | apply Kd.R_alloc | apply Kd.R_drewN | apply Kd.R_drew)); exact HO120.out⟩, ⟨by repeat (first | (with_reducible first | exact HB.out | apply below_alloc | apply pw_below_drewN | apply below_drew1) | exact HB.out)⟩⟩
  case round =>
    clear H'
    try clear c2
    try clear p2
    try clear c3
    obtain ⟨x7_1, rfl, HA, HK1, HO_6, HB⟩ := hrel
    cases gk with
    | zero => exact absurd HA.out (by simp [passepartoutref08_Name.l0])
    | succ k1 =>
      have H := HA.out
      clear HA
      simp only [passepartoutref08_Name.l0] at H
      by_cases c5 : x7_1 < (t118.length : Int)
      · rw [if_pos c5] at H
        have c5b0 : decide (x7_1 < (t118.length : Int)) = true := decide_eq_true c5
        clear c5
        by_cases c6 : 0 ≤ x7_1
        · rw [if_pos c6] at H
          have c6b0 : decide (0 ≤ x7_1) = true := decide_eq_true c6
          clear c6
          by_cases c7 : ((rd_T72 t118 x7_1).f0) = a1
          · rw [if_pos c7] at H
            have c7b0 : (((rd_T72 t118 x7_1).f0) == a1) = true := beq_iff_eq.mpr c7
            have c7b1 : (((rd_T72 t118 x7_1).f0) != a1) = false := bne_eq_false_iff_eq.mpr c7
            clear c7
            simp only [Option.some.injEq, Prod.mk.injEq] at H
            obtain ⟨rfl, rfl⟩ := H
            obtain ⟨Ao8, co8, eo8⟩ := Kd.R_slice HO_6.out
            subst eo8
            have p121 : 0 ≤ (x7_1 : Int) := of_decide_eq_true (by first | (with_reducible assumption) | assumption)
            have q121 : x7_1 < (t118.length : Int) := of_decide_eq_true (by first | (with_reducible assumption) | assumption)
            obtain ⟨ad121, e121, hx121_0, hx121_1⟩ := at_T72 (Kd.R_reads' HO_6.out).2.2 x7_1 p121 q121
            cases e121
            replace p121 := eq_true p121
            replace q121 := eq_true q121
            have p122 : 0 ≤ (x7_1 : Int) := of_decide_eq_true (by first | (with_reducible assumption) | assumption)
            have q122 : x7_1 < (t118.length : Int) := of_decide_eq_true (by first | (with_reducible assumption) | assumption)
            obtain ⟨ad122, e122, hx122_0, hx122_1⟩ := at_T72 (Kd.R_reads' HO_6.out).2.2 x7_1 p122 q122
            obtain rfl : ad121 = ad122 := (by injection e122)
            replace p122 := eq_true p122
            replace q122 := eq_true q122
            go_wp2
            go_ret2
            exact ⟨by first | rfl | (simp [errW_none, errW_some] <;> rfl) | (simp [*, errW_none, errW_some] <;> rfl), by repeat (first | (with_reducible first | exact HB.out | apply below_alloc | apply pw_below_drewN | apply below_drew1) | exact HB.out)⟩
          · rw [if_neg c7] at H
            have c7b0 : (((rd_T72 t118 x7_1).f0) == a1) = false := beq_eq_false_iff_ne.mpr c7
            have c7b1 : (((rd_T72 t118 x7_1).f0) != a1) = true := bne_iff_ne.mpr c7
            have H' := Aside0.mk H
            clear H
            obtain ⟨Ao9, co9, eo9⟩ := Kd.R_slice HO_6.out
            subst eo9
            have p121 : 0 ≤ (x7_1 : Int) := of_decide_eq_true (by first | (with_reducible assumption) | assumption)
            have q121 : x7_1 < (t118.length : Int) := of_decide_eq_true (by first | (with_reducible assumption) | assumption)
            obtain ⟨ad121, e121, hx121_0, hx121_1⟩ := at_T72 (Kd.R_reads' HO_6.out).2.2 x7_1 p121 q121
            cases e121
            replace p121 := eq_true p121
            replace q121 := eq_true q121
            go_wp2
            go_roundg k1
            case measure => have := HK1.out; omega
            case rel => exact ⟨(wrap64 (x7_1 + 1)), (by first | rfl | (simp; done) | (simp [*]; done)), H', ⟨by have := HK1.out; omega⟩, ⟨by (with_reducible repeat (first | apply Kd.R_alloc | apply Kd.R_drewN | apply Kd.R_drew)); exact HO_6.out⟩, ⟨by repeat (first | (with_reducible first | exact HB.out | apply below_alloc | apply pw_below_drewN | apply below_drew1) | exact HB.out)⟩⟩
        · rw [if_neg c6] at H
          exact absurd H (by simp)
      · rw [if_neg c5] at H
        have c5b0 : decide (x7_1 < (t118.length : Int)) = false := decide_eq_false c5
        clear c5
        simp only [Option.some.injEq, Prod.mk.injEq] at H
        obtain ⟨rfl, rfl⟩ := H
        obtain ⟨Ao10, co10, eo10⟩ := Kd.R_slice HO_6.out
        subst eo10
        go_wp2
        go_ret2
        exact ⟨by first | rfl | (simp [errW_none, errW_some] <;> rfl) | (simp [*, errW_none, errW_some] <;> rfl), by repeat (first | (with_reducible first | exact HB.out | apply below_alloc | apply pw_below_drewN | apply below_drew1) | exact HB.out)⟩

/-! ### passepartoutref01_Number: function 26 -/
def passepartoutref01_Number.l0 : Nat → List Int → Int → Int → Option (Int)
  | 0, _, _, _ => none
  | k + 1, x0, x3, x4 => if x4 < (x0.length : Int) then (if 0 ≤ x4 then (passepartoutref01_Number.l0 k x0 (IntKind.u64.wrap ((IntKind.u64.wrap (x3 * 256)) + (IntKind.u64.wrap (rd x0 x4)))) (wrap64 (x4 + 1))) else (none)) else (some x3)
def passepartoutref01_Number.f (k : Nat) (l0 : List Int) : Option (Int) := passepartoutref01_Number.l0 k l0 0 0
theorem passepartoutref01_Number.mono_l : ∀ k, (∀ y0 y1 y2, LeO (passepartoutref01_Number.l0 k y0 y1 y2) (passepartoutref01_Number.l0 (k + 1) y0 y1 y2))
  | 0 => fun _ _ _ r h => by simp [passepartoutref01_Number.l0] at h
  | k + 1 => by
    have ih0 := passepartoutref01_Number.mono_l k
    · intro y0 y1 y2
      unfold passepartoutref01_Number.l0
      repeat' first
      | (with_reducible exact ih0 _ _ _)
      | (with_reducible exact LeO.refl _)
      | (with_reducible exact LeO.none _)
      | (with_reducible refine LeO.ite ?_ ?_)
      | (with_reducible refine LeO.bind ?_ (fun _ => ?_))
      | exact ih0 _ _ _
      | exact LeO.none _
      | refine LeO.ite ?_ ?_
      | refine LeO.bind ?_ (fun _ => ?_)
theorem passepartoutref01_Number.mono : ∀ a0 k, LeO (passepartoutref01_Number.f k a0) (passepartoutref01_Number.f (k + 1) a0) := by
  intro a0 k
  have ih0 := passepartoutref01_Number.mono_l k
  unfold passepartoutref01_Number.f
  repeat' first
      | (with_reducible exact ih0 _ _ _)
      | (with_reducible exact LeO.refl _)
      | (with_reducible exact LeO.none _)
      | (with_reducible refine LeO.ite ?_ ?_)
      | (with_reducible refine LeO.bind ?_ (fun _ => ?_))
      | exact ih0 _ _ _
      | exact LeO.none _
      | refine LeO.ite ?_ ?_
      | refine LeO.bind ?_ (fun _ => ?_)
set_option maxHeartbeats 8000000 in
set_option maxRecDepth 100000 in
theorem passepartoutref01_Number.calls (k : Nat) (A0 : Option Addr) (c0 : Nat) (l0 : List Int) (r : Int) (w : World) (hr0 : Kd.C (Kd.int .u8) w A0 l0.length l0) (hc0 : l0.length ≤ c0) (h : passepartoutref01_Number.f k l0 = some r) :
    Calls Try.prog 26 #[.slice A0 l0.length c0] w fun e w' => e = .returned (.int .u64 r) ∧ Drawn0 w w' := by
  have HR0 := Aside0.mk hr0
  have HC0 := Aside0.mk hc0
  clear hr0 hc0
  have H : (passepartoutref01_Number.l0 k l0 0 0) = some r := h
  clear h
  have H' := Aside0.mk H
  clear H
  go_enter Try.func26, Try.ntmps26
  go_wp2
  go_loopg [3, 4] k (fun kq v3 v4 w' => ∃ (x3_1 : Int) (x4_1 : Int), v3 = .int .u64 x3_1 ∧ v4 = .int .i64 x4_1 ∧ Aside0 (passepartoutref01_Number.l0 kq l0 x3_1 x4_1 = some r) ∧ Aside0 (kq ≤ k) ∧ Drawn0 w w')
  case atStart => exact ⟨(0), (0), (by first | rfl | (simp; done) | (simp [*]; done)), (by first | rfl | (simp; done) | (simp [*]; done)), H', ⟨Nat.le_refl _⟩, by repeat (first | exact Drawn0.refl _ | apply Drawn0.step)⟩
  case round =>
    clear H'
    obtain ⟨x3_1, x4_1, rfl, rfl, HA, HK1, ⟨m1, rfl⟩⟩ := hrel
    cases gk with
    | zero => exact absurd HA.out (by simp [passepartoutref01_Number.l0])
    | succ k1 =>
      have H := HA.out
      clear HA
      simp only [passepartoutref01_Number.l0] at H
      by_cases c2 : x4_1 < (l0.length : Int)
      · rw [if_pos c2] at H
        have c2b0 : decide (x4_1 < (l0.length : Int)) = true := decide_eq_true c2
        clear c2
        by_cases c3 : 0 ≤ x4_1
        · rw [if_pos c3] at H
          have c3b0 : decide (0 ≤ x4_1) = true := decide_eq_true c3
          clear c3
          have H' := Aside0.mk H
          clear H
          have p123 : 0 ≤ (x4_1 : Int) := of_decide_eq_true (by first | (with_reducible assumption) | assumption)
          have q123 : x4_1 < (l0.length : Int) := of_decide_eq_true (by first | (with_reducible assumption) | assumption)
          obtain ⟨ad123, e123, hx123_0⟩ := Kd.at_int HR0.out x4_1 p123 q123
          cases e123
          replace p123 := eq_true p123
          replace q123 := eq_true q123
          go_wp2
          go_roundg k1
          case measure => have := HK1.out; omega
          case rel => exact ⟨(IntKind.u64.wrap ((IntKind.u64.wrap (x3_1 * 256)) + (IntKind.u64.wrap (rd l0 x4_1)))), (wrap64 (x4_1 + 1)), (by first | rfl | (simp; done) | (simp [*]; done)), (by first | rfl | (simp; done) | (simp [*]; done)), H', ⟨by have := HK1.out; omega⟩, by repeat (first | exact Drawn0.refl _ | apply Drawn0.step)⟩
        · rw [if_neg c3] at H
          exact absurd H (by simp)
      · rw [if_neg c2] at H
        have c2b0 : decide (x4_1 < (l0.length : Int)) = false := decide_eq_false c2
        clear c2
        obtain rfl := Option.some.inj H
        go_wp2
        go_ret
        exact ⟨by first | rfl | (simp; done) | (simp [*]; done), by repeat (first | exact Drawn0.refl _ | apply Drawn0.step)⟩

end Go.Proofs.Ytmdmllfbdpoeeaa
