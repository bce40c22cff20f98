/- Of any code and any name of any kind, the program's codes.Name and codes.Code tell what the document's lists tell; no condition on the input. -/
import Derived.Test.YtbfdbleancempaaPCodesNamesx1
namespace Go.Proofs.Ytbfdbleancempaa.Pure
open Go.RowKit Go.Proofs.Hand Go.Proofs.Ytbfdbleancempaa.PCodesNames Go.Proofs.YtbfdbleancempaaW.PrintWords Go.Proofs.YtbfdbleancempaaW.PrintLast

def toS (l : List (Int × ByteArray)) : List S36 := l.map fun x => ⟨x.1, x.2⟩
theorem all_is (k : Int) : passepartoutref08_All.f k = some (toS (tab k)) := by
  unfold passepartoutref08_All.f tab
  split
  · rfl
  · split
    · rfl
    · split <;> rfl
theorem toS_length (l : List (Int × ByteArray)) : (toS l).length = l.length := by simp [toS]
theorem rd_toS (l : List (Int × ByteArray)) (i : Nat) (h : i < l.length) : rd_T36 (toS l) i = ⟨(l[i]).1, (l[i]).2⟩ := by
  simp [rd_T36, toS, h]
theorem wrap_next (i n : Nat) (h : i < n) (hn : n ≤ 1000) : wrap64 ((i : Int) + 1) = ((i + 1 : Nat) : Int) := by
  unfold wrap64; omega
theorem name_l0 (l : List (Int × ByteArray)) (c : Int) (hn : l.length ≤ 1000) : ∀ (d k i : Nat), i + d = l.length → d < k →
    passepartoutref08_Name.l0 k c (toS l) i = some ((nameIn (l.drop i) c).getD ⟨#[]⟩, (nameIn (l.drop i) c).isSome) := by
  intro d
  induction d with
  | zero =>
    intro k i hi hk
    obtain ⟨k, rfl⟩ : ∃ m, k = m + 1 := ⟨k - 1, by omega⟩
    simp only [passepartoutref08_Name.l0]
    rw [if_neg (by rw [toS_length]; omega), List.drop_of_length_le (by omega)]
    rfl
  | succ d ih =>
    intro k i hi hk
    obtain ⟨k, rfl⟩ : ∃ m, k = m + 1 := ⟨k - 1, by omega⟩
    have hlt : i < l.length := by omega
    simp only [passepartoutref08_Name.l0]
    rw [if_pos (by rw [toS_length]; omega), if_pos (by omega), rd_toS l i hlt, List.drop_eq_getElem_cons hlt, wrap_next i l.length hlt hn, ih k (i + 1) (by omega) (by omega)]
    simp only [nameIn]
    by_cases e : (l[i]).1 = c
    · rw [if_pos e, if_pos e.symm]; rfl
    · rw [if_neg e, if_neg (fun h => e h.symm)]
theorem code_l0 (l : List (Int × ByteArray)) (s : ByteArray) (hn : l.length ≤ 1000) : ∀ (d k i : Nat), i + d = l.length → d < k →
    passepartoutref08_Code.l0 k s (toS l) i = some ((codeIn (l.drop i) s.data.toList).getD 0, (codeIn (l.drop i) s.data.toList).isSome) := by
  intro d
  induction d with
  | zero =>
    intro k i hi hk
    obtain ⟨k, rfl⟩ : ∃ m, k = m + 1 := ⟨k - 1, by omega⟩
    simp only [passepartoutref08_Code.l0]
    rw [if_neg (by rw [toS_length]; omega), List.drop_of_length_le (by omega)]
    rfl
  | succ d ih =>
    intro k i hi hk
    obtain ⟨k, rfl⟩ : ∃ m, k = m + 1 := ⟨k - 1, by omega⟩
    have hlt : i < l.length := by omega
    simp only [passepartoutref08_Code.l0]
    rw [if_pos (by rw [toS_length]; omega), if_pos (by omega), rd_toS l i hlt, List.drop_eq_getElem_cons hlt, wrap_next i l.length hlt hn, ih k (i + 1) (by omega) (by omega)]
    simp only [codeIn]
    by_cases e : (l[i]).2.toList = s.toList
    · rw [if_pos e, if_pos (by rw [← ByteArray.toList_eq, ← ByteArray.toList_eq]; exact e.symm)]; rfl
    · rw [if_neg e, if_neg (fun h => e (by rw [← ByteArray.toList_eq, ← ByteArray.toList_eq] at h; exact h.symm))]
theorem tab_length (k : Int) : (tab k).length ≤ 22 := by
  unfold tab
  split
  · decide
  · split
    · decide
    · split <;> decide
theorem alive : passepartoutlaw08_alive.f = some true := by decide +kernel

theorem CodesNames : passepartoutlaw08_CodesNames.Pure := by
  intro a0 a1 a2 _ h1 h2
  refine ⟨23, ?_⟩
  unfold passepartoutlaw08_CodesNames.f passepartoutref08_Name.f passepartoutref08_Code.f codes_Name.f codes_Code.f
  have hl := tab_length a0
  have e1 := name_l0 (tab a0) a1 (by omega) (tab a0).length 23 0 (by omega) (by omega)
  have e2 := code_l0 (tab a0) a2 (by omega) (tab a0).length 23 0 (by omega) (by omega)
  simp only [Int.natCast_zero, List.drop_zero] at e1 e2
  rw [if_pos h1, if_pos (by unfold maxLen; omega), all_is]
  simp [e1, e2, alive]
end Go.Proofs.Ytbfdbleancempaa.Pure
