/- The law's examples hold; no condition. -/
import Derived.Test.YtpndiobbogelpaaPLegalOrderx2
namespace Go.Proofs.Ytpndiobbogelpaa.Pure
open Go Go.RowKit Go.Proofs.Hand Go.Proofs.Ytpndiobbogelpaa Go.Proofs.Ytpndiobbogelpaa.PLegalOrder Go.Proofs.YtpndiobbogelpaaW.PrintWords Go.Proofs.YtpndiobbogelpaaW.PrintLast

theorem up {α : Type} {g : Nat → Option α} (hm : ∀ k, LeO (g k) (g (k + 1))) {K : Nat} {r : α} (h : g K = some r) : ∀ k, K ≤ k → g k = some r := by
  intro k hk
  induction k with
  | zero =>
    have e : K = 0 := by omega
    rw [← e]
    exact h
  | succ k ih =>
    rcases Nat.lt_or_ge K (k + 1) with hl | hl
    · exact hm k _ (ih (by omega))
    · obtain rfl : K = k + 1 := by omega
      exact h
theorem alive_true : ∀ k, 20 ≤ k → passepartoutlaw14_alive.f k = some true := up passepartoutlaw14_alive.mono (by decide +kernel)

end Go.Proofs.Ytpndiobbogelpaa.Pure
