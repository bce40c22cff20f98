/- Of every place and every type the program tells what the reference does: whether there is such a place, whether the type has a meaning, whether it may stand there; the numbers are ints. -/
import Derived.Test.YtpndiobbogelpaaPLegalMaysx3
namespace Go.Proofs.Ytpndiobbogelpaa.Pure
open Go Go.RowKit Go.Proofs.Hand Go.Proofs.Ytpndiobbogelpaa Go.Proofs.Ytpndiobbogelpaa.PLegalMays Go.Proofs.YtpndiobbogelpaaW.PrintWords Go.Proofs.YtpndiobbogelpaaW.PrintLast

theorem up {α : Type} {g : Nat → Option α} (hm : ∀ k, LeO (g k) (g (k + 1))) {K : Nat} {r : α} (h : g K = some r) : ∀ k, K ≤ k → g k = some r := by
  intro k hk
  induction k with
  | zero =>
    have e : K = 0 := by omega
    rw [← e]
    exact h
  | succ k ih =>
    rcases Nat.lt_or_ge K (k + 1) with hl | hl
    · exact hm k _ (ih (by omega))
    · obtain rfl : K = k + 1 := by omega
      exact h
theorem alive_true : ∀ k, 20 ≤ k → passepartoutlaw14_alive.f k = some true := up passepartoutlaw14_alive.mono (by decide +kernel)
def toS (l : List (Int × ByteArray)) : List S50 := l.map fun x => ⟨x.1, x.2⟩
theorem all_is (k : Int) : passepartoutref08_All.f k = some (toS (tab k)) := by
  unfold passepartoutref08_All.f tab
  split
  · rfl
  · split
    · rfl
    · split <;> rfl
theorem toS_length (l : List (Int × ByteArray)) : (toS l).length = l.length := by simp [toS]
theorem rd_toS (l : List (Int × ByteArray)) (i : Nat) (h : i < l.length) : rd_T50 (toS l) i = ⟨(l[i]).1, (l[i]).2⟩ := by
  simp [rd_T50, toS, h]
theorem wrap_next (i n : Nat) (h : i < n) (hn : n ≤ 1000) : wrap64 ((i : Int) + 1) = ((i + 1 : Nat) : Int) := by
  unfold wrap64; omega
theorem name_l0 (l : List (Int × ByteArray)) (c : Int) (hn : l.length ≤ 1000) : ∀ (d k i : Nat), i + d = l.length → d < k →
    passepartoutref08_Name.l0 k c (toS l) i = some ((nameIn (l.drop i) c).getD ⟨#[]⟩, (nameIn (l.drop i) c).isSome) := by
  intro d
  induction d with
  | zero =>
    intro k i hi hk
    obtain ⟨k, rfl⟩ : ∃ m, k = m + 1 := ⟨k - 1, by omega⟩
    simp only [passepartoutref08_Name.l0]
    rw [if_neg (by rw [toS_length]; omega), List.drop_of_length_le (by omega)]
    rfl
  | succ d ih =>
    intro k i hi hk
    obtain ⟨k, rfl⟩ : ∃ m, k = m + 1 := ⟨k - 1, by omega⟩
    have hlt : i < l.length := by omega
    simp only [passepartoutref08_Name.l0]
    rw [if_pos (by rw [toS_length]; omega), if_pos (by omega), rd_toS l i hlt, List.drop_eq_getElem_cons hlt, wrap_next i l.length hlt hn, ih k (i + 1) (by omega) (by omega)]
    simp only [nameIn]
    by_cases e : (l[i]).1 = c
    · rw [if_pos e, if_pos e.symm]; rfl
    · rw [if_neg e, if_neg (fun h => e h.symm)]
theorem tab_length (k : Int) : (tab k).length ≤ 22 := by
  unfold tab
  split
  · decide
  · split
    · decide
    · split <;> decide

theorem name_is (c : Int) : passepartoutref08_Name.f 40 2 c = some ((nameIn (tab 2) c).getD ⟨#[]⟩, (nameIn (tab 2) c).isSome) := by
  unfold passepartoutref08_Name.f
  rw [all_is]
  simp only [Option.bind_some]
  have := name_l0 (tab 2) c (Nat.le_trans (tab_length 2) (by decide)) (tab 2).length 40 0 (by omega) (Nat.lt_of_le_of_lt (tab_length 2) (by decide))
  simpa using this
theorem known_is {c : Int} (h : (Lit.int .i64 c).wf = true) : legal_Known.f c = some (nameIn (tab 2) c).isSome := by
  unfold legal_Known.f codes_Name.f
  rw [if_pos h]
  rfl
theorem place_is (p : Int) : passepartoutref14_Place.f p = some (placeB p) := by
  rw [← place_some p]
  unfold passepartoutref14_Place.f legal_Place.f
  repeat' split
  all_goals first
    | rfl
    | (rename_i h; simp [h])
theorem ext_is {p c : Int} (hp : (Lit.int .i64 p).wf = true) (h : (Lit.int .i64 c).wf = true) : shape_Ext.f p c = some (tell (look keysSpot extTab (p, c))) := by
  unfold shape_Ext.f
  rw [if_pos ⟨hp, h⟩]
theorem mayB_is {p c : Int} (hp : (Lit.int .i64 p).wf = true) (h : (Lit.int .i64 c).wf = true) : mayB p c = (placeB p && ((look keysSpot extTab (p, c)).isSome || !(nameIn (tab 2) c).isSome)) := by
  unfold mayB legal_May.f
  rw [place_some, ext_is hp h, known_is h]
  simp only [Option.bind_some]
  have e : (tell (look keysSpot extTab (p, c))).2.2.2.2.2.2 = (look keysSpot extTab (p, c)).isSome := rfl
  rw [e]
  cases placeB p <;> cases (look keysSpot extTab (p, c)).isSome <;> rfl
theorem refmay_is {p c : Int} (hp : (Lit.int .i64 p).wf = true) (h : (Lit.int .i64 c).wf = true) : ∀ k, 40 ≤ k → passepartoutref14_May.f k p c = some (mayB p c) := by
  refine up (passepartoutref14_May.mono p c) ?_
  unfold passepartoutref14_May.f r13_Ext.f
  rw [name_is, ext_is hp h, place_is, mayB_is hp h]
  simp only [Option.bind_some]
  have e : (tell (look keysSpot extTab (p, c))).2.2.2.2.2.2 = (look keysSpot extTab (p, c)).isSome := rfl
  rw [e]
  cases placeB p <;> cases (nameIn (tab 2) c).isSome <;> cases (look keysSpot extTab (p, c)).isSome <;> rfl

theorem LegalMays : passepartoutlaw14_LegalMays.Pure := by
  intro a0 a1 h0 h1
  refine ⟨40, ?_⟩
  unfold passepartoutlaw14_LegalMays.f
  rw [name_is, alive_true 40 (by decide), known_is h1, place_some, place_is, may_some h0 h1, refmay_is h0 h1 40 (Nat.le_refl _)]
  simp

end Go.Proofs.Ytpndiobbogelpaa.Pure
