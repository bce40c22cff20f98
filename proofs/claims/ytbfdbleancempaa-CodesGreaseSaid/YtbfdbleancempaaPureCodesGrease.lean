/- Which codes are grease: codes.Grease is the document's, sixteen codes of two bytes are grease, and none is an extension's; no condition on the input. -/
import Derived.Test.YtbfdbleancempaaPCodesGreasex1
namespace Go.Proofs.Ytbfdbleancempaa.Pure
open Go.RowKit Go.Proofs.Hand Go.Proofs.Ytbfdbleancempaa.PCodesGrease Go.Proofs.YtbfdbleancempaaW.PrintWords Go.Proofs.YtbfdbleancempaaW.PrintLast

theorem wraps_i64 (n : Int) (h₀ : 0 ≤ n) (h₁ : n < 2 ^ 63) : IntKind.i64.wrap n = n := by rw [IntKind.wrap_i64]; omega
theorem and255 {x : Int} (h0 : 0 ≤ x) (h1 : x < 2 ^ 63) : Go.bits .and .i64 x 255 = x % 256 := bits_mask .i64 63 (by decide) wraps_i64 8 (by decide) x h0 h1
theorem and15 {x : Int} (h0 : 0 ≤ x) (h1 : x < 2 ^ 63) : Go.bits .and .i64 x 15 = x % 16 := bits_mask .i64 63 (by decide) wraps_i64 4 (by decide) x h0 h1
theorem grease_in {x : Int} (h0 : 0 ≤ x) (h1 : x < 65536) : codes_Grease.f x = some (decide ((x + 1542) % 4112 = 0)) := by
  unfold codes_Grease.f
  rw [if_pos (by omega), if_pos h1, and255 h0 (by omega), and15 h0 (by omega)]
  by_cases e : x / 256 = x % 256
  · rw [if_pos e]
    congr 1
    rw [Bool.eq_iff_iff]
    simp only [beq_iff_eq, decide_eq_true_eq]
    omega
  · rw [if_neg e]
    congr 1
    symm
    simp only [decide_eq_false_iff_not]
    omega
theorem grease_out {x : Int} (h : x < 0 ∨ 65536 ≤ x) : codes_Grease.f x = some false := by
  unfold codes_Grease.f
  by_cases h0 : x ≥ 0
  · rw [if_pos h0, if_neg (by omega)]
  · rw [if_neg h0]
theorem ref_l0 (a : Int) : ∀ (d k i : Nat), i + d = 16 → d < k → passepartoutref08_Grease.l0 k a i = some (decide (2570 + 4112 * (i : Int) ≤ a ∧ a < 65536 ∧ (a + 1542) % 4112 = 0)) := by
  intro d
  induction d with
  | zero =>
    intro k i hi hk
    obtain ⟨k, rfl⟩ : ∃ m, k = m + 1 := ⟨k - 1, by omega⟩
    simp only [passepartoutref08_Grease.l0]
    rw [if_neg (by omega)]
    congr 1; symm
    simp only [decide_eq_false_iff_not]
    omega
  | succ d ih =>
    intro k i hi hk
    obtain ⟨k, rfl⟩ : ∃ m, k = m + 1 := ⟨k - 1, by omega⟩
    simp only [passepartoutref08_Grease.l0]
    have e1 : wrap64 ((wrap64 ((wrap64 (16 * (i : Int))) + 10)) * 257) = 2570 + 4112 * (i : Int) := by
      have a1 : wrap64 (16 * (i : Int)) = 16 * i := by unfold wrap64; omega
      have a2 : wrap64 (16 * (i : Int) + 10) = 16 * i + 10 := by unfold wrap64; omega
      rw [a1, a2]; unfold wrap64; omega
    have e2 : wrap64 ((i : Int) + 1) = ((i + 1 : Nat) : Int) := by unfold wrap64; omega
    rw [if_pos (by omega), e1, e2, ih k (i + 1) (by omega) (by omega)]
    by_cases e : a = 2570 + 4112 * (i : Int)
    · rw [if_pos e]
      congr 1; symm
      simp only [decide_eq_true_eq]
      omega
    · rw [if_neg e]
      congr 1
      rw [decide_eq_decide]
      omega
theorem no_ext : ∀ x : Fin 17, (nameIn (tab 2) (2570 + 4112 * (x.val : Int))).isSome = false := by decide +kernel
theorem name_no {x : Int} (h0 : 0 ≤ x) (h1 : x < 65536) (h : (x + 1542) % 4112 = 0) : codes_Name.f 2 x = some ((nameIn (tab 2) x).getD ⟨#[]⟩, false) := by
  unfold codes_Name.f
  rw [if_pos (WalkArith.wf_i64 (by omega))]
  have := no_ext ⟨((x - 2570) / 4112).toNat, by omega⟩
  simp only at this
  rw [show 2570 + 4112 * ((((x - 2570) / 4112).toNat : Nat) : Int) = x by omega] at this
  rw [this]
theorem law_l0 : ∀ (d k i : Nat), i + d = 65536 → d < k → passepartoutlaw08_CodesGrease.l0 k (((i : Int) + 1541) / 4112) i = some true := by
  intro d
  induction d with
  | zero =>
    intro k i hi hk
    obtain ⟨k, rfl⟩ : ∃ m, k = m + 1 := ⟨k - 1, by omega⟩
    simp only [passepartoutlaw08_CodesGrease.l0]
    rw [if_neg (by omega)]
    have e : ((i : Int) + 1541) / 4112 = 16 := by omega
    rw [e]
    rfl
  | succ d ih =>
    intro k i hi hk
    obtain ⟨k, rfl⟩ : ∃ m, k = m + 1 := ⟨k - 1, by omega⟩
    simp only [passepartoutlaw08_CodesGrease.l0]
    have e2 : wrap64 ((i : Int) + 1) = ((i + 1 : Nat) : Int) := by unfold wrap64; omega
    have hn := ih k (i + 1) (by omega) (by omega)
    rw [if_pos (by omega), grease_in (by omega) (by omega), e2]
    simp only [Option.bind_some]
    by_cases e : ((i : Int) + 1542) % 4112 = 0
    · rw [if_pos (by simpa using e), name_no (by omega) (by omega) e]
      simp only [Option.bind_some]
      rw [if_neg (by simp)]
      have e3 : wrap64 (((i : Int) + 1541) / 4112 + 1) = (((i + 1 : Nat) : Int) + 1541) / 4112 := by unfold wrap64; omega
      rw [e3]; exact hn
    · rw [if_neg (by simpa using e)]
      have e3 : ((i : Int) + 1541) / 4112 = (((i + 1 : Nat) : Int) + 1541) / 4112 := by omega
      rw [e3]; exact hn
theorem alive : passepartoutlaw08_alive.f = some true := by decide +kernel

theorem law_j0 (k : Nat) (hk : 65536 < k) : passepartoutlaw08_CodesGrease.j0 (k + 1) false = some true := by
  simp only [passepartoutlaw08_CodesGrease.j0]
  rw [if_neg (by simp)]
  exact law_l0 65536 k 0 (by omega) hk
theorem CodesGrease : passepartoutlaw08_CodesGrease.Pure := by
  intro a0 _
  obtain ⟨K, hK⟩ : ∃ K, 65536 < K := ⟨65537, by omega⟩
  refine ⟨K + 1, ?_⟩
  unfold passepartoutlaw08_CodesGrease.f passepartoutref08_Grease.f
  have h := ref_l0 a0 16 (K + 1) 0 (by omega) (by omega)
  simp only [Int.natCast_zero] at h
  have hj := law_j0 K hK
  rw [alive, h]
  simp only [Option.bind_some, if_true]
  by_cases hx : 0 ≤ a0 ∧ a0 < 65536
  · rw [grease_in hx.1 hx.2]
    simp only [Option.bind_some]
    have e : (decide ((a0 + 1542) % 4112 = 0) != decide (2570 + 4112 * 0 ≤ a0 ∧ a0 < 65536 ∧ (a0 + 1542) % 4112 = 0)) = false := by
      rw [bne_eq_false_iff_eq, decide_eq_decide]; omega
    rw [e]; exact hj
  · rw [grease_out (by omega)]
    simp only [Option.bind_some]
    have e : (false != decide (2570 + 4112 * 0 ≤ a0 ∧ a0 < 65536 ∧ (a0 + 1542) % 4112 = 0)) = false := by
      rw [bne_eq_false_iff_eq, eq_comm, decide_eq_false_iff_not]; omega
    rw [e]; exact hj
end Go.Proofs.Ytbfdbleancempaa.Pure
