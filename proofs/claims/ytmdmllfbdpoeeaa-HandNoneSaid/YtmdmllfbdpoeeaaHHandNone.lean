/- The law HandNone returns true: how many bytes messages may have; of no hand nothing is told; the number is an int's. -/
import Derived.Test.YtmdmllfbdpoeeaaHHandG
namespace Go.Proofs.Ytmdmllfbdpoeeaa
open Go Go.RowKit Go.Maps Go.Proofs.Hand Go.Proofs.YtmdmllfbdpoeeaaW.PrintWords Go.Proofs.YtmdmllfbdpoeeaaW.PrintLast Go.Proofs.YtmdmllfbdpoeeaaW.PrintMore
set_option maxRecDepth 100000
set_option linter.unusedVariables false
set_option linter.unusedSimpArgs false

set_option maxHeartbeats 4000000 in
theorem HandNone_walk (a0 : Int) (A1 : Option Addr) (c1 : Nat) (l1 : List Int) (w : World) (w0 : (Lit.int .i64 a0).wf = true) (hC : (Kd.int .u8).C w A1 l1.length l1) (hc : l1.length ≤ c1) (hw : ∀ n ∈ l1, (Lit.int .u8 n).wf = true) :
    Calls Try.prog 7 #[.int .i64 a0, .slice A1 l1.length c1] w fun e w' => e = .returned (.bool true) ∧ Below w.heap.size w w' := by
  clear hC hc hw w0
  by_cases h : a0 < 4 ∨ 16777219 < a0
  · have h' := Aside0.mk h
    have k : (a0 < 4) ∨ (¬ a0 < 4 ∧ 16777219 < a0) := by omega
    clear h
    rcases k with k | ⟨k, k2⟩
    all_goals
      go_enter Try.func7, Try.ntmps7
      go_wp2_with (first
        | (go_at_call 12; refine (Put_nil _ _ _ _ _).mono ?_; rintro e w1 ⟨rfl, rfl⟩)
        | (go_at_call 20; refine (Partial_nil _).mono ?_; rintro e w1 ⟨rfl, rfl⟩)
        | (go_at_call 13; refine (Held_nil _).mono ?_; rintro e w1 ⟨rfl, rfl⟩)
        | (go_at_call 14; refine (Place_none _ _ _ _ _ _).mono ?_; rintro e w2 ⟨rfl, hb2⟩)
        | (go_at_call 10; refine (New_bad _ _ h'.out).mono ?_; rintro e w3 ⟨rfl, rfl⟩)
        | (go_at_call 9; refine (alive_walk _).mono ?_; rintro e w4 ⟨rfl, hb4⟩))
      go_ret
      exact ⟨rfl, hb2.trans (hb4.mono hb2.size)⟩
  · have k1 : ¬ a0 < 4 := by omega
    have k2 : ¬ 16777219 < a0 := by omega
    have k3 : 4 ≤ a0 := by omega
    have k4 : a0 ≤ 16777219 := by omega
    clear h
    go_enter Try.func7, Try.ntmps7
    go_wp2_with (first
      | (go_at_call 12; refine (Put_nil _ _ _ _ _).mono ?_; rintro e w1 ⟨rfl, rfl⟩)
      | (go_at_call 20; refine (Partial_nil _).mono ?_; rintro e w1 ⟨rfl, rfl⟩)
      | (go_at_call 13; refine (Held_nil _).mono ?_; rintro e w1 ⟨rfl, rfl⟩)
      | (go_at_call 14; refine (Place_none _ _ _ _ _ _).mono ?_; rintro e w2 ⟨rfl, hb2⟩)
      | (go_at_call 10; refine (New_ok _ _ k3 k4).mono ?_; rintro e w3 ⟨rfl, hw3⟩; have hI := New_is a0 w2 w2.heap.size (Nat.le_refl _); have hb3 := (Below.refl w2.heap.size w2).alloc (Nat.le_refl _) (.cells #[.int .i64 a0, .slice none 0 0, .slice none 0 0, .int .i64 0, .int .i64 0, .int .i64 0, .int .i64 0] 57); rw [hw3] at hI hb3; clear hw3; replace hI := Aside0.mk hI)
      | (go_at_call 9; refine (alive_walk _).mono ?_; rintro e w4 ⟨rfl, hb4⟩))
    refine (Partial_calls _ (hI.out.keep (W' := w4) (fun k hk hlt => hb4.block k hlt))).mono ?_
    rintro e w5 ⟨rfl, rfl⟩
    go_wp2
    go_ret
    exact ⟨rfl, hb2.trans ((hb3.trans (hb4.mono hb3.size)).mono hb2.size)⟩
end Go.Proofs.Ytmdmllfbdpoeeaa
