/- The small Go functions of package hand: how many bytes more are wanted, and a head that is there, told by the cells of a hand; no condition beyond the lemmas' own. -/
import Derived.Test.YtmdmllfbdpoeeaaHKinds
import Derived.Test.YtmdmllfbdpoeeaaHHandPure
import Derived.Test.YtmdmllfbdpoeeaaHMaps
import Derived.BigQuiet
import Derived.BigRegion
import Derived.IntWalk
namespace Go.Proofs.Ytmdmllfbdpoeeaa
open Go Go.RowKit Go.Maps Go.Proofs.Hand Go.Proofs.YtmdmllfbdpoeeaaW.PrintWords Go.Proofs.YtmdmllfbdpoeeaaW.PrintLast Go.Proofs.YtmdmllfbdpoeeaaW.PrintMore
set_option maxRecDepth 100000

theorem cells7 {W : World} {b : Nat} {a0 a1 a2 a3 a4 a5 a6 : Value} (h : W.heap[b]? = some (.cells #[a0, a1, a2, a3, a4, a5, a6] 57 (0, 0))) :
    W.cell? ⟨b, 0, none⟩ = some a0 ∧ W.cell? ⟨b, 1, none⟩ = some a1 ∧ W.cell? ⟨b, 2, none⟩ = some a2 ∧ W.cell? ⟨b, 3, none⟩ = some a3 ∧ W.cell? ⟨b, 4, none⟩ = some a4 ∧ W.cell? ⟨b, 5, none⟩ = some a5 ∧ W.cell? ⟨b, 6, none⟩ = some a6 := by
  simp [World.cell?, h]
theorem live7 {W : World} {b : Nat} {cs : Array Value} (h : W.heap[b]? = some (.cells cs 57 (0, 0))) (q : Nat) : W.frozen? ⟨b, q, none⟩ = false := by
  simp [World.frozen?, h]
set_option maxHeartbeats 1000000 in
theorem want_lo (g n c : Nat) (A : Option Addr) (most need next eat err : Int) (vS : Value) (w : World) (hb : w.heap[g]? = some (.cells #[.int .i64 most, .slice A n c, vS, .int .i64 need, .int .i64 next, .int .i64 eat, .int .i64 err] 57 (0, 0))) (h4 : n < 4) :
    Calls Try.prog 21 #[.pointer (some ⟨g, 0, none⟩)] w fun e w' => e = .returned (.int .i64 (4 - (n : Int))) ∧ w = w' := by
  obtain ⟨y0, y1, y2, y3, y4, y5, y6⟩ := cells7 hb
  replace hb := Aside0.mk hb
  have k4 : decide ((n : Int) < 4) = true := decide_eq_true (by omega)
  go_enter Try.func21, Try.ntmps21
  go_wp2
  go_ret
  exact ⟨rfl, rfl⟩
set_option maxHeartbeats 1000000 in
theorem want_hi (g n c : Nat) (A : Option Addr) (most need next eat err : Int) (vS : Value) (w : World) (hb : w.heap[g]? = some (.cells #[.int .i64 most, .slice A n c, vS, .int .i64 need, .int .i64 next, .int .i64 eat, .int .i64 err] 57 (0, 0))) (h4 : 4 ≤ n) (hn : (n : Int) ≤ need) (hm : need ≤ 100000000) :
    Calls Try.prog 21 #[.pointer (some ⟨g, 0, none⟩)] w fun e w' => e = .returned (.int .i64 (need - (n : Int))) ∧ ∃ m, w' = w.drewN m := by
  obtain ⟨y0, y1, y2, y3, y4, y5, y6⟩ := cells7 hb
  replace hb := Aside0.mk hb
  have k4 : decide ((n : Int) < 4) = false := decide_eq_false (by omega)
  have hw : IntKind.i64.wrap (need - (n : Int)) = need - (n : Int) := by rw [IntWalk.i64_left, IntWalk.wrap64_in _ ⟨by omega, by omega⟩]
  go_enter Try.func21, Try.ntmps21
  go_wp2
  go_quiet (fail)
  go_wp2
  go_ret
  exact ⟨rfl, _, rfl⟩
end Go.Proofs.Ytmdmllfbdpoeeaa
