/- Two codes of a kind have two names, and a name with a byte more or less is none of its code; no condition on the input. -/
import Derived.Test.YtbfdbleancempaaPCodesApartx1
namespace Go.Proofs.Ytbfdbleancempaa.Pure
open Go.RowKit Go.Proofs.Hand Go.Proofs.Ytbfdbleancempaa.PCodesApart Go.Proofs.YtbfdbleancempaaW.PrintWords Go.Proofs.YtbfdbleancempaaW.PrintLast

theorem alive : passepartoutlaw08_alive.f = some true := by decide +kernel
/-- Each name has a byte, and few. -/
def Sized (l : List (Int × ByteArray)) : Prop := ∀ x ∈ l, 0 < x.2.size ∧ x.2.size ≤ 100
instance (l : List (Int × ByteArray)) : Decidable (Sized l) := inferInstanceAs (Decidable (∀ x ∈ l, _))
theorem sized_tab (k : Int) : Sized (tab k) := by
  unfold tab
  split
  · decide +kernel
  · split
    · decide +kernel
    · split
      · decide +kernel
      · intro x hx; cases hx
theorem name_at {k c : Int} (h : (Lit.int .i64 c).wf = true) : codes_Name.f k c = some ((nameIn (tab k) c).getD ⟨#[]⟩, (nameIn (tab k) c).isSome) := if_pos h
theorem code_at {k : Int} {s : ByteArray} (h : s.size ≤ 101) : codes_Code.f k s = some ((codeIn (tab k) s.data.toList).getD 0, (codeIn (tab k) s.data.toList).isSome) := if_pos (by unfold maxLen; omega)
/-- The code of another text than s isn't s's. -/
theorem code_ne {k c : Int} {s : ByteArray} (hs : nameIn (tab k) c = some s) {u : List UInt8} (hu : u.length ≠ s.size) {n : Int} (h : codeIn (tab k) u = some n) : n ≠ c := by
  rintro rfl
  obtain ⟨b, hb, e⟩ := code_name (good_tab k) h
  rw [hs] at hb
  cases hb
  rw [← e] at hu
  simp at hu
theorem tail {k c : Int} {s : ByteArray} (hs : nameIn (tab k) c = some s) (j : Nat) : passepartoutlaw08_CodesApart.j0 (j + 1) k c s true false = some true := by
  obtain ⟨h0, h1⟩ := sized_tab k _ (nameIn_mem hs)
  simp only at h0 h1
  simp only [passepartoutlaw08_CodesApart.j0]
  have e1 : wrap64 ((s.size : Int) - 1) = ((s.size - 1 : Nat) : Int) := by unfold wrap64; omega
  have e2 : (s ++ (⟨#[95]⟩ : ByteArray)).size = s.size + 1 := by simp [ByteArray.size_append]; rfl
  have e3 : (s.extract 0 (s.size - 1)).size = s.size - 1 := by simp [ByteArray.size_extract]
  have c1 := code_at (k := k) (s := s ++ (⟨#[95]⟩ : ByteArray)) (by omega)
  have c2 := code_at (k := k) (s := s.extract 0 (s.size - 1)) (by omega)
  rw [if_neg (by simp), if_pos True.intro, if_neg (by
    intro h
    rw [ByteArray.toList_eq] at h
    have := congrArg List.length h
    rw [Array.length_toList] at this
    change s.size = 0 at this
    omega), if_pos (by omega), e1, c1]
  simp only [Option.bind_some]
  rw [if_pos (by omega), if_pos (by omega), Int.toNat_natCast, c2, alive]
  simp only [Option.bind_some, if_true]
  cases hm : codeIn (tab k) (s ++ (⟨#[95]⟩ : ByteArray)).data.toList with
  | none =>
    cases hl : codeIn (tab k) (s.extract 0 (s.size - 1)).data.toList with
    | none => rfl
    | some n =>
      have := code_ne hs (by simp; omega) hl
      simpa using this
  | some n =>
    have h1 := code_ne hs (by simp) hm
    cases hl : codeIn (tab k) (s.extract 0 (s.size - 1)).data.toList with
    | none => simpa using h1
    | some n' =>
      have := code_ne hs (by simp; omega) hl
      simp [h1, this]
theorem CodesApart : passepartoutlaw08_CodesApart.Pure := by
  intro a0 a1 a2 _ h1 h2
  refine ⟨1, ?_⟩
  unfold passepartoutlaw08_CodesApart.f
  rw [name_at h1, name_at h2]
  simp only [Option.bind_some]
  cases e1 : nameIn (tab a0) a1 with
  | none =>
    simp only [Option.isSome_none, Option.getD_none, Bool.false_eq_true, if_false, passepartoutlaw08_CodesApart.j0]
    rw [alive, ByteArray.toList_eq]
    rfl
  | some s =>
    cases e2 : nameIn (tab a0) a2 with
    | none =>
      simp only [Option.isSome_some, Option.isSome_none, Option.getD_some, Bool.false_eq_true, if_false, if_true]
      exact tail e1 0
    | some t =>
      simp only [Option.isSome_some, Option.getD_some, if_true]
      have e : ((a1 == a2) != (s.toList == t.toList)) = false := by
        rw [bne_eq_false_iff_eq, Bool.eq_iff_iff, beq_iff_eq, beq_iff_eq]
        constructor
        · rintro rfl
          rw [e1] at e2
          cases e2
          rfl
        · intro h
          have c1 := name_code (good_tab a0) e1
          have c2 := name_code (good_tab a0) e2
          rw [ByteArray.toList_eq, ByteArray.toList_eq] at h
          rw [h, c2] at c1
          exact (Option.some.inj c1).symm
      rw [e]
      exact tail e1 0
end Go.Proofs.Ytbfdbleancempaa.Pure
