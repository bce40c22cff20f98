/- What legal.Check's answer says of a list with one taken out: plain laws of lists; no condition beyond the lemmas' own. -/
import Derived.Test.YtpndiobbogelpaaHCheck
namespace Go.Proofs.Ytpndiobbogelpaa
open Go Go.RowKit
set_option maxRecDepth 100000

theorem chk_zero (p : Int) : ∀ (l : List S38) (seen : List Int) (i : Nat), (chk p seen i l).2 = 0 → chk p seen i l = (0, 0)
  | [], _, _, _ => rfl
  | x :: r, seen, i, h => by
    rw [chk] at h ⊢
    split at h
    · cases h
    · rename_i h0
      rw [if_neg h0]
      split at h
      · cases h
      · rename_i h1
        rw [if_neg h1]
        split at h
        · cases h
        · rename_i h2
          rw [if_neg h2]
          split at h
          · cases h
          · rename_i h3
            rw [if_neg h3]
            exact chk_zero p r _ _ h
/-- All is right with the first, and with those behind it. -/
theorem chk_cons {p : Int} {x : S38} {r : List S38} {seen : List Int} {i : Nat} : (chk p seen i (x :: r)).2 = 0 ↔ ((decide (x.f0 < 0) || decide (65535 < x.f0) || decide (65535 < (x.f1.length : Int))) = false ∧ seen.contains x.f0 = false ∧ mayB p x.f0 = true ∧ ¬ (x.f0 = 41 ∧ p = 1 ∧ r ≠ [])) ∧ (chk p (x.f0 :: seen) (i + 1) r).2 = 0 := by
  rw [chk]
  split
  · rename_i h
    exact ⟨fun e => (by cases e), fun e => (by rw [e.1.1] at h; cases h)⟩
  · rename_i h0
    split
    · rename_i h1
      exact ⟨fun e => (by cases e), fun e => (by rw [e.1.2.1] at h1; cases h1)⟩
    · rename_i h1
      split
      · rename_i h2
        exact ⟨fun e => (by cases e), fun e => (by rw [e.1.2.2.1] at h2; cases h2)⟩
      · rename_i h2
        split
        · rename_i h3
          exact ⟨fun e => (by cases e), fun e => absurd h3 e.1.2.2.2⟩
        · rename_i h3
          have e0 := Bool.eq_false_iff.2 h0
          have e1 := Bool.eq_false_iff.2 h1
          have e2 : mayB p x.f0 = true := by simpa using h2
          exact ⟨fun h => ⟨⟨e0, e1, e2, h3⟩, h⟩, fun h => h.2⟩
end Go.Proofs.Ytpndiobbogelpaa
