/- Of every list of extensions in every place the program tells what the reference does: what is wrong, and with which; the numbers are ints. -/
import Derived.Test.YtpndiobbogelpaaPLegalChecksx4
namespace Go.Proofs.Ytpndiobbogelpaa.Pure
open Go Go.RowKit Go.Proofs.Hand Go.Proofs.Ytpndiobbogelpaa Go.Proofs.Ytpndiobbogelpaa.PLegalChecks Go.Proofs.YtpndiobbogelpaaW.PrintWords Go.Proofs.YtpndiobbogelpaaW.PrintLast

theorem up {α : Type} {g : Nat → Option α} (hm : ∀ k, LeO (g k) (g (k + 1))) {K : Nat} {r : α} (h : g K = some r) : ∀ k, K ≤ k → g k = some r := by
  intro k hk
  induction k with
  | zero =>
    have e : K = 0 := by omega
    rw [← e]
    exact h
  | succ k ih =>
    rcases Nat.lt_or_ge K (k + 1) with hl | hl
    · exact hm k _ (ih (by omega))
    · obtain rfl : K = k + 1 := by omega
      exact h
theorem alive_true : ∀ k, 20 ≤ k → passepartoutlaw14_alive.f k = some true := up passepartoutlaw14_alive.mono (by decide +kernel)
def toS (l : List (Int × ByteArray)) : List S50 := l.map fun x => ⟨x.1, x.2⟩
theorem all_is (k : Int) : passepartoutref08_All.f k = some (toS (tab k)) := by
  unfold passepartoutref08_All.f tab
  split
  · rfl
  · split
    · rfl
    · split <;> rfl
theorem toS_length (l : List (Int × ByteArray)) : (toS l).length = l.length := by simp [toS]
theorem rd_toS (l : List (Int × ByteArray)) (i : Nat) (h : i < l.length) : rd_T50 (toS l) i = ⟨(l[i]).1, (l[i]).2⟩ := by
  simp [rd_T50, toS, h]
theorem wrap_next (i n : Nat) (h : i < n) (hn : n ≤ 1000) : wrap64 ((i : Int) + 1) = ((i + 1 : Nat) : Int) := by
  unfold wrap64; omega
theorem name_l0 (l : List (Int × ByteArray)) (c : Int) (hn : l.length ≤ 1000) : ∀ (d k i : Nat), i + d = l.length → d < k →
    passepartoutref08_Name.l0 k c (toS l) i = some ((nameIn (l.drop i) c).getD ⟨#[]⟩, (nameIn (l.drop i) c).isSome) := by
  intro d
  induction d with
  | zero =>
    intro k i hi hk
    obtain ⟨k, rfl⟩ : ∃ m, k = m + 1 := ⟨k - 1, by omega⟩
    simp only [passepartoutref08_Name.l0]
    rw [if_neg (by rw [toS_length]; omega), List.drop_of_length_le (by omega)]
    rfl
  | succ d ih =>
    intro k i hi hk
    obtain ⟨k, rfl⟩ : ∃ m, k = m + 1 := ⟨k - 1, by omega⟩
    have hlt : i < l.length := by omega
    simp only [passepartoutref08_Name.l0]
    rw [if_pos (by rw [toS_length]; omega), if_pos (by omega), rd_toS l i hlt, List.drop_eq_getElem_cons hlt, wrap_next i l.length hlt hn, ih k (i + 1) (by omega) (by omega)]
    simp only [nameIn]
    by_cases e : (l[i]).1 = c
    · rw [if_pos e, if_pos e.symm]; rfl
    · rw [if_neg e, if_neg (fun h => e h.symm)]
theorem tab_length (k : Int) : (tab k).length ≤ 22 := by
  unfold tab
  split
  · decide
  · split
    · decide
    · split <;> decide

theorem name_is (c : Int) : passepartoutref08_Name.f 40 2 c = some ((nameIn (tab 2) c).getD ⟨#[]⟩, (nameIn (tab 2) c).isSome) := by
  unfold passepartoutref08_Name.f
  rw [all_is]
  simp only [Option.bind_some]
  have := name_l0 (tab 2) c (Nat.le_trans (tab_length 2) (by decide)) (tab 2).length 40 0 (by omega) (Nat.lt_of_le_of_lt (tab_length 2) (by decide))
  simpa using this
theorem known_is {c : Int} (h : (Lit.int .i64 c).wf = true) : legal_Known.f c = some (nameIn (tab 2) c).isSome := by
  unfold legal_Known.f codes_Name.f
  rw [if_pos h]
  rfl
theorem place_is (p : Int) : r14_Place.f p = some (placeB p) := by
  rw [← place_some p]
  unfold r14_Place.f legal_Place.f
  repeat' split
  all_goals first
    | rfl
    | (rename_i h; simp [h])
theorem ext_is {p c : Int} (hp : (Lit.int .i64 p).wf = true) (h : (Lit.int .i64 c).wf = true) : shape_Ext.f p c = some (tell (look keysSpot extTab (p, c))) := by
  unfold shape_Ext.f
  rw [if_pos ⟨hp, h⟩]
theorem mayB_is {p c : Int} (hp : (Lit.int .i64 p).wf = true) (h : (Lit.int .i64 c).wf = true) : mayB p c = (placeB p && ((look keysSpot extTab (p, c)).isSome || !(nameIn (tab 2) c).isSome)) := by
  unfold mayB legal_May.f
  rw [place_some, ext_is hp h, known_is h]
  simp only [Option.bind_some]
  have e : (tell (look keysSpot extTab (p, c))).2.2.2.2.2.2 = (look keysSpot extTab (p, c)).isSome := rfl
  rw [e]
  cases placeB p <;> cases (look keysSpot extTab (p, c)).isSome <;> rfl
theorem refmay_is {p c : Int} (hp : (Lit.int .i64 p).wf = true) (h : (Lit.int .i64 c).wf = true) : ∀ k, 40 ≤ k → r14_May.f k p c = some (mayB p c) := by
  refine up (r14_May.mono p c) ?_
  unfold r14_May.f r13_Ext.f
  rw [name_is, ext_is hp h, place_is, mayB_is hp h]
  simp only [Option.bind_some]
  have e : (tell (look keysSpot extTab (p, c))).2.2.2.2.2.2 = (look keysSpot extTab (p, c)).isSome := rfl
  rw [e]
  cases placeB p <;> cases (nameIn (tab 2) c).isSome <;> cases (look keysSpot extTab (p, c)).isSome <;> rfl

theorem rd_at (l : List S38) (i : Nat) (h : i < l.length) : rd_T38 l (i : Int) = l[i] := by simp [rd_T38, List.getD, List.getElem?_eq_getElem h]
theorem ref_l1 (a0 : Int) (l : List S38) (hl : l.length ≤ 1000) (i : Nat) (hi : i < l.length) (R : Int × Int) (hT : ∃ K, r14_Check.l1 K a0 l (i : Int) (i : Int) = some R) :
    ∀ (d q : Nat), q + d = i → ∃ K, r14_Check.l1 K a0 l (i : Int) (q : Int) = some (if (((l.take i).drop q).any fun y => y.f0 == (l[i]).f0) = true then ((i : Int), 7) else R)
  | 0, q, h => by
    obtain rfl : q = i := by omega
    obtain ⟨K, hK⟩ := hT
    refine ⟨K, ?_⟩
    rw [hK, List.drop_eq_nil_of_le (by simp; omega)]
    rfl
  | d + 1, q, h => by
    obtain ⟨K, hK⟩ := ref_l1 a0 l hl i hi R hT d (q + 1) (by omega)
    have hq : q < l.length := by omega
    have hd : (l.take i).drop q = l[q] :: (l.take i).drop (q + 1) := by
      rw [List.drop_eq_getElem_cons (by simp; omega)]
      simp
    refine ⟨K + 1, ?_⟩
    rw [r14_Check.l1, if_pos (by omega), if_pos (by omega), if_pos (by omega), if_pos (by omega), if_pos (by omega), rd_at l q hq, rd_at l i hi, wrap_next q l.length hq hl, hd, List.any_cons]
    by_cases e : (l[q]).f0 = (l[i]).f0
    · rw [if_pos e, e]; simp
    · rw [if_neg e, hK]
      have e2 : ((l[q]).f0 == (l[i]).f0) = false := by simpa using e
      rw [e2, Bool.false_or]
theorem ref_l0 (a0 : Int) (hp : (Lit.int .i64 a0).wf = true) (l : List S38) (hl : l.length ≤ 1000) (hw : ∀ x ∈ l, (Lit.int .i64 x.f0).wf = true) : ∀ (m i : Nat) (seen : List Int), i + m = l.length → (∀ z, seen.contains z = (l.take i).any fun y => y.f0 == z) → ∃ K, r14_Check.l0 K a0 l (i : Int) = some (chk a0 seen i (l.drop i))
  | 0, i, seen, h, _ => ⟨1, by
    rw [r14_Check.l0, if_neg (by omega), List.drop_eq_nil_of_le (by omega)]
    rfl⟩
  | m + 1, i, seen, h, hs => by
    have hi : i < l.length := by omega
    have hwx := hw _ (List.getElem_mem hi)
    have hd : l.drop i = l[i] :: l.drop (i + 1) := List.drop_eq_getElem_cons hi
    have hs' : ∀ z, (l[i].f0 :: seen).contains z = (l.take (i + 1)).any fun y => y.f0 == z := by
      intro z
      rw [List.contains_cons, hs z, List.take_succ_eq_append_getElem hi, List.any_append]
      simp only [List.any_cons, List.any_nil, Bool.or_false]
      rw [Bool.or_comm]
      congr 1
      by_cases e : z = l[i].f0
      · simp [e]
      · have e1 : (z == l[i].f0) = false := by simpa using e
        have e2 : (l[i].f0 == z) = false := by simpa using fun h => e h.symm
        rw [e1, e2]
    obtain ⟨K0, h0⟩ := ref_l0 a0 hp l hl hw m (i + 1) (l[i].f0 :: seen) (by omega) hs'
    have hnext : ∀ k, K0 ≤ k → r14_Check.l0 k a0 l ((i + 1 : Nat) : Int) = some (chk a0 (l[i].f0 :: seen) (i + 1) (l.drop (i + 1))) := up (fun k => (r14_Check.mono_l k).1 _ _ _) h0
    have hwr := wrap_next i l.length hi hl
    have hne : (l.drop (i + 1) ≠ []) ↔ ((i + 1 : Nat) : Int) < (l.length : Int) := by
      rw [← List.length_pos_iff, List.length_drop]; omega
    have hT : ∃ K, r14_Check.l1 K a0 l (i : Int) (i : Int) = some (if mayB a0 l[i].f0 = false then ((i : Int), 8) else if l[i].f0 = 41 ∧ a0 = 1 ∧ l.drop (i + 1) ≠ [] then ((i : Int), 16) else chk a0 (l[i].f0 :: seen) (i + 1) (l.drop (i + 1))) := by
      refine ⟨max K0 40 + 1, ?_⟩
      rw [r14_Check.l1, if_neg (by omega), if_pos (by omega), if_pos (by omega), rd_at l i hi, refmay_is hp hwx _ (Nat.le_max_right _ _), hwr, hnext _ (Nat.le_max_left _ _)]
      simp only [Option.bind_some]
      cases hm : mayB a0 l[i].f0
      · simp
      · by_cases q1 : l[i].f0 = 41 <;> by_cases q2 : a0 = 1 <;> by_cases q3 : ((i + 1 : Nat) : Int) < (l.length : Int)
        all_goals first
          | (have q4 := hne.2 q3; simp only [q1, q2, q3, q4, if_true, if_false, and_self, and_true, true_and, false_and, and_false, ne_eq, not_true, not_false_iff, Bool.true_eq_false, reduceCtorEq]; done)
          | (have q4 : l.drop (i + 1) = [] := Classical.byContradiction fun h => q3 (hne.1 h); simp only [q1, q2, q3, q4, if_true, if_false, and_self, and_true, true_and, false_and, and_false, ne_eq, not_true, not_false_iff, Bool.true_eq_false, reduceCtorEq]; done)
          | (simp [q1, q2, q3]; done)
    obtain ⟨K1, h1⟩ := ref_l1 a0 l hl i hi _ hT i 0 (by omega)
    rw [hd, chk]
    by_cases g0 : l[i].f0 < 0
    · refine ⟨2, ?_⟩
      rw [r14_Check.l0, if_pos (by omega), if_pos (by omega), rd_at l i hi, if_pos g0, r14_Check.j1, if_pos rfl]
      simp [g0]
    · by_cases g1 : l[i].f0 > 65535
      · refine ⟨2, ?_⟩
        rw [r14_Check.l0, if_pos (by omega), if_pos (by omega), rd_at l i hi, if_neg g0, if_pos g1, r14_Check.j1, if_pos rfl]
        have g1' : 65535 < l[i].f0 := g1
        simp [g1']
      · by_cases g2 : (l[i].f1.length : Int) > 65535
        · refine ⟨2, ?_⟩
          rw [r14_Check.l0, if_pos (by omega), if_pos (by omega), rd_at l i hi, if_neg g0, if_neg g1, r14_Check.j1, if_pos (by simpa using g2)]
          have g2' : decide (65535 < (l[i].f1.length : Int)) = true := decide_eq_true g2
          simp only [g2', Bool.or_true, if_true]
        · refine ⟨K1 + 2, ?_⟩
          rw [r14_Check.l0, if_pos (by omega), if_pos (by omega), rd_at l i hi, if_neg g0, if_neg g1, r14_Check.j1, if_neg (by simpa using g2)]
          refine h1.trans ?_
          have k0 : decide (l[i].f0 < 0) = false := decide_eq_false g0
          have k1 : decide (65535 < l[i].f0) = false := decide_eq_false g1
          have k2 : decide (65535 < (l[i].f1.length : Int)) = false := decide_eq_false g2
          rw [k0, k1, k2, hs, List.drop_zero]
          rfl

theorem LegalChecks (a0 : Int) (l : List S38) (h0 : (Lit.int .i64 a0).wf = true) (hw : ∀ x ∈ l, (Lit.int .i64 x.f0).wf = true) : ∃ k, passepartoutlaw14_LegalChecks.f k a0 l = some true := by
  by_cases hl : (l.length : Int) > 500
  · refine ⟨20, ?_⟩
    unfold passepartoutlaw14_LegalChecks.f
    rw [if_pos hl, alive_true 20 (Nat.le_refl _)]
    rfl
  · have hl2 : l.length ≤ 1000 := by omega
    have hf : legal_Check.f a0 l = some (if placeB a0 = true then chk a0 [] 0 l else (0, 2)) := by
      unfold legal_Check.f
      rw [if_pos]
      simp only [chkOk, Bool.and_eq_true]
      exact ⟨⟨h0, Nat.ble_eq_true_of_le hl2⟩, List.all_eq_true.2 hw⟩
    have hr : ∃ K, ∀ k, K ≤ k → r14_Check.f k a0 l = some (if placeB a0 = true then chk a0 [] 0 l else (0, 2)) := by
      obtain ⟨K, hK⟩ := ref_l0 a0 h0 l hl2 hw l.length 0 [] (by omega) (fun z => by simp)
      refine ⟨K, up (r14_Check.mono a0 l) ?_⟩
      unfold r14_Check.f
      rw [place_is]
      simp only [Option.bind_some]
      split
      · exact hK
      · rfl
    obtain ⟨K, hK⟩ := hr
    refine ⟨max K 20, ?_⟩
    unfold passepartoutlaw14_LegalChecks.f
    rw [if_neg hl, hf, hK _ (Nat.le_max_left _ _), alive_true _ (Nat.le_max_right _ _)]
    simp
theorem LegalChecks_walk (a0 : Int) (A1 : Option Addr) (c1 : Nat) (l1 : List S38) (w : World) (w0 : (Lit.int .i64 a0).wf = true) (hC : Kd.C k38 w A1 l1.length l1) (hc : l1.length ≤ c1) (hw : ∀ x ∈ l1, (Lit.int .i64 x.f0).wf = true ∧ ∀ n ∈ x.f1, (Lit.int .u8 n).wf = true) :
    Calls Try.prog 3 #[.int .i64 a0, .slice A1 l1.length c1] w fun e w' => e = .returned (.bool true) ∧ Below w.heap.size w w' := by
  obtain ⟨k, hk⟩ := LegalChecks a0 l1 w0 (fun x hx => (hw x hx).1)
  refine (passepartoutlaw14_LegalChecks.calls k a0 A1 c1 l1 true w hC hc hk).mono ?_
  rintro e w' ⟨rfl, hd⟩
  exact ⟨rfl, hd⟩

end Go.Proofs.Ytpndiobbogelpaa.Pure
