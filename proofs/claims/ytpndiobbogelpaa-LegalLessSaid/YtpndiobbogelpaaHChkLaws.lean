/- What legal.Check's answer says of a list with one taken out: plain laws of lists; no condition beyond the lemmas' own. -/
import Derived.Test.YtpndiobbogelpaaHCheck
namespace Go.Proofs.Ytpndiobbogelpaa
open Go Go.RowKit
set_option maxRecDepth 100000

theorem chk_zero (p : Int) : ∀ (l : List S38) (seen : List Int) (i : Nat), (chk p seen i l).2 = 0 → chk p seen i l = (0, 0)
  | [], _, _, _ => rfl
  | x :: r, seen, i, h => by
    rw [chk] at h ⊢
    split at h
    · cases h
    · rename_i h0
      rw [if_neg h0]
      split at h
      · cases h
      · rename_i h1
        rw [if_neg h1]
        split at h
        · cases h
        · rename_i h2
          rw [if_neg h2]
          split at h
          · cases h
          · rename_i h3
            rw [if_neg h3]
            exact chk_zero p r _ _ h
/-- All is right with the first, and with those behind it. -/
theorem chk_cons {p : Int} {x : S38} {r : List S38} {seen : List Int} {i : Nat} : (chk p seen i (x :: r)).2 = 0 ↔ ((decide (x.f0 < 0) || decide (65535 < x.f0) || decide (65535 < (x.f1.length : Int))) = false ∧ seen.contains x.f0 = false ∧ mayB p x.f0 = true ∧ ¬ (x.f0 = 41 ∧ p = 1 ∧ r ≠ [])) ∧ (chk p (x.f0 :: seen) (i + 1) r).2 = 0 := by
  rw [chk]
  split
  · rename_i h
    exact ⟨fun e => (by cases e), fun e => (by rw [e.1.1] at h; cases h)⟩
  · rename_i h0
    split
    · rename_i h1
      exact ⟨fun e => (by cases e), fun e => (by rw [e.1.2.1] at h1; cases h1)⟩
    · rename_i h1
      split
      · rename_i h2
        exact ⟨fun e => (by cases e), fun e => (by rw [e.1.2.2.1] at h2; cases h2)⟩
      · rename_i h2
        split
        · rename_i h3
          exact ⟨fun e => (by cases e), fun e => absurd h3 e.1.2.2.2⟩
        · rename_i h3
          have e0 := Bool.eq_false_iff.2 h0
          have e1 := Bool.eq_false_iff.2 h1
          have e2 : mayB p x.f0 = true := by simpa using h2
          exact ⟨fun h => ⟨⟨e0, e1, e2, h3⟩, h⟩, fun h => h.2⟩
theorem chk_mono (p : Int) : ∀ (l : List S38) (seen seen' : List Int) (i j : Nat), (∀ z, seen.contains z = false → seen'.contains z = false) → (chk p seen i l).2 = 0 → (chk p seen' j l).2 = 0
  | [], _, _, _, _, _, _ => rfl
  | x :: r, seen, seen', i, j, hs, h => by
    rw [chk_cons] at h ⊢
    obtain ⟨⟨h0, h1, h2, h3⟩, h4⟩ := h
    refine ⟨⟨h0, hs _ h1, h2, h3⟩, chk_mono p r _ _ _ _ (fun z hz => ?_) h4⟩
    simp only [List.contains_cons, Bool.or_eq_false_iff] at hz ⊢
    exact ⟨hz.1, hs z hz.2⟩
theorem chk_del (p : Int) : ∀ (l : List S38) (d : Nat) (seen : List Int) (i j : Nat), d + 1 < l.length → (chk p seen i l).2 = 0 → (chk p seen j (l.take d ++ l.drop (d + 1))).2 = 0
  | [], _, _, _, _, h, _ => absurd h (by simp)
  | x :: r, 0, seen, i, j, _, h => by
    rw [chk_cons] at h
    refine chk_mono p r _ _ _ _ (fun z hz => ?_) h.2
    simp only [List.contains_cons, Bool.or_eq_false_iff] at hz
    exact hz.2
  | x :: r, d + 1, seen, i, j, hd, h => by
    rw [chk_cons] at h
    obtain ⟨⟨h0, h1, h2, h3⟩, h4⟩ := h
    have hr : d + 1 < r.length := by simpa using hd
    have ih := chk_del p r d (x.f0 :: seen) (i + 1) (j + 1) hr h4
    show (chk p seen j (x :: (r.take d ++ r.drop (d + 1)))).2 = 0
    rw [chk_cons]
    refine ⟨⟨h0, h1, h2, fun hb => h3 ⟨hb.1, hb.2.1, fun e => ?_⟩⟩, ih⟩
    rw [e] at hr
    simp at hr
theorem chkOk_del {p : Int} {l : List S38} (h : chkOk p l = true) (d : Nat) : chkOk p (l.take d ++ l.drop (d + 1)) = true := by
  simp only [chkOk, Bool.and_eq_true] at h ⊢
  obtain ⟨⟨hp, hl⟩, hw⟩ := h
  refine ⟨⟨hp, ?_⟩, ?_⟩
  · have := Nat.le_of_ble_eq_true hl
    apply Nat.ble_eq_true_of_le
    rw [List.length_append, List.length_take, List.length_drop]
    omega
  · rw [List.all_eq_true] at hw ⊢
    intro x hx
    rcases List.mem_append.1 hx with hx | hx
    · exact hw x (List.mem_of_mem_take hx)
    · exact hw x (List.mem_of_mem_drop hx)
end Go.Proofs.Ytpndiobbogelpaa
