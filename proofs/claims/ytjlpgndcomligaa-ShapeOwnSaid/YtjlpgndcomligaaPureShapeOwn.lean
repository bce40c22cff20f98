/- A form is the same as itself, and the law's examples hold; no condition beyond the lemmas' own. -/
import Derived.Test.YtjlpgndcomligaaPShapeOwnx3
import Derived.IntWalk
namespace Go.Proofs.Ytjlpgndcomligaa.Pure
open Go Go.RowKit Go.Sort Go.Shelf Go.Proofs.Hand Go.Proofs.Ytjlpgndcomligaa Go.Proofs.Ytjlpgndcomligaa.PShapeOwn Go.Proofs.YtjlpgndcomligaaW.PrintWords Go.Proofs.YtjlpgndcomligaaW.PrintLast

theorem up {α : Type} {g : Nat → Option α} (hm : ∀ k, LeO (g k) (g (k + 1))) {K : Nat} {r : α} (h : g K = some r) : ∀ k, K ≤ k → g k = some r := by
  intro k hk
  induction k with
  | zero =>
    have e : K = 0 := by omega
    rw [← e]
    exact h
  | succ k ih =>
    rcases Nat.lt_or_ge K (k + 1) with hl | hl
    · exact hm k _ (ih (by omega))
    · obtain rfl : K = k + 1 := by omega
      exact h
def same (k : Nat) (f g : S24) : Option Bool := passepartoutref04_Same.f k f.f0 f.f1 f.f2 f.f3 f.f4 f.f5 g.f0 g.f1 g.f2 g.f3 g.f4 g.f5
theorem same_mono (f g : S24) : ∀ k, LeO (same k f g) (same (k + 1) f g) := fun k => passepartoutref04_Same.mono _ _ _ _ _ _ _ _ _ _ _ _ k
theorem same_l0 (p : List S24) (hp : p.length ≤ 1000) (h : ∀ g ∈ p, ∃ K, ∀ k, K ≤ k → same k g g = some true) : ∀ (m : Nat) (i : Nat), i + m = p.length → ∃ K, passepartoutref04_Same.l0 K p p (i : Int) = some true
  | 0, i, hi => ⟨1, by simp [passepartoutref04_Same.l0]; omega⟩
  | m + 1, i, hi => by
    obtain ⟨K1, h1⟩ := same_l0 p hp h m (i + 1) (by omega)
    have hlt : i < p.length := by omega
    obtain ⟨K2, h2⟩ := h p[i] (List.getElem_mem hlt)
    have e : rd_T24 p (i : Int) = p[i] := by simp [rd_T24, List.getD, List.getElem?_eq_getElem hlt]
    have hmono : ∀ k, LeO (passepartoutref04_Same.l0 k p p ((i : Int) + 1)) (passepartoutref04_Same.l0 (k + 1) p p ((i : Int) + 1)) := fun k => (passepartoutref04_Same.mono_l k).2.2.2.2 _ _ _
    have a1 := up hmono h1 (max K1 K2) (Nat.le_max_left _ _)
    have a2 := h2 (max K1 K2) (Nat.le_max_right _ _)
    unfold same at a2
    have hw : wrap64 ((i : Int) + 1) = (i : Int) + 1 := IntWalk.wrap64_in _ ⟨by omega, by omega⟩
    refine ⟨max K1 K2 + 1, ?_⟩
    rw [passepartoutref04_Same.l0, if_pos (by omega), if_pos (by omega), if_pos (by omega), e, a2, hw]
    simpa using a1
theorem same_refl : ∀ (n : Nat) (f : S24), shortN n f = true → ∃ K, ∀ k, K ≤ k → same k f f = some true
  | 0, f, h => by cases h
  | n + 1, f, h => by
    simp only [shortN, Bool.and_eq_true] at h
    have hl := Nat.le_of_ble_eq_true h.1
    obtain ⟨K, hK⟩ : ∃ K, ∀ p : List S24, (∀ g ∈ p, g ∈ f.f5) → p.length ≤ f.f5.length → (p = f.f5 ∨ p = []) → passepartoutref04_Same.l0 K p p 0 = some true := by
      obtain ⟨K, hK⟩ := same_l0 f.f5 hl (fun g hg => same_refl n g (List.all_eq_true.1 h.2 g hg)) f.f5.length 0 (by omega)
      refine ⟨K, fun p _ _ hp => ?_⟩
      rcases hp with rfl | rfl
      · exact hK
      · cases K with
        | zero => simp [passepartoutref04_Same.l0] at hK
        | succ K => simp [passepartoutref04_Same.l0]
    refine ⟨K + 4, up (same_mono f f) ?_⟩
    by_cases h2 : f.f0 = 2 ∨ f.f0 = 3
    · have e : same (K + 4) f f = passepartoutref04_Same.l0 K f.f5 f.f5 0 := by
        rcases h2 with h2 | h2 <;> simp [same, passepartoutref04_Same.f, passepartoutref04_Same.j0, passepartoutref04_Same.j1, passepartoutref04_Same.j2, passepartoutref04_parts.f, h2]
      rw [e]
      exact hK _ (fun _ h => h) (Nat.le_refl _) (.inl rfl)
    · have e : same (K + 4) f f = passepartoutref04_Same.l0 K [] [] 0 := by
        have h3 : f.f0 ≠ 2 := fun e => h2 (.inl e)
        have h4 : f.f0 ≠ 3 := fun e => h2 (.inr e)
        by_cases g0 : f.f0 = 0
        · simp [same, passepartoutref04_Same.f, passepartoutref04_Same.j0, passepartoutref04_Same.j1, passepartoutref04_Same.j2, passepartoutref04_parts.f, g0]
        · by_cases g1 : f.f0 = 1
          · simp [same, passepartoutref04_Same.f, passepartoutref04_Same.j0, passepartoutref04_Same.j1, passepartoutref04_Same.j2, passepartoutref04_parts.f, g1]
          · by_cases g4 : f.f0 = 4
            · simp [same, passepartoutref04_Same.f, passepartoutref04_Same.j0, passepartoutref04_Same.j1, passepartoutref04_Same.j2, passepartoutref04_parts.f, g4]
            · by_cases g5 : f.f0 = 5
              · simp [same, passepartoutref04_Same.f, passepartoutref04_Same.j0, passepartoutref04_Same.j1, passepartoutref04_Same.j2, passepartoutref04_parts.f, g5]
              · simp [same, passepartoutref04_Same.f, passepartoutref04_Same.j0, passepartoutref04_Same.j1, passepartoutref04_Same.j2, passepartoutref04_parts.f, g0, g1, g4, g5, h3, h4]
      rw [e]
      exact hK [] (fun _ h => by cases h) (Nat.zero_le _) (.inr rfl)
/-- What is told of an entry is the same as itself. -/
theorem tell_same (o : Option S24) (hn : shortN 9 (o.getD zForm) = true) : ∃ K, ∀ k, K ≤ k → passepartoutref04_Same.f k (tell o).1 (tell o).2.1 (tell o).2.2.1 (tell o).2.2.2.1 (tell o).2.2.2.2.1 (tell o).2.2.2.2.2.1 (tell o).1 (tell o).2.1 (tell o).2.2.1 (tell o).2.2.2.1 (tell o).2.2.2.2.1 (tell o).2.2.2.2.2.1 = some true := same_refl 9 _ hn
theorem look_shortN (Y : Keys) {l : List (Y.κ × Form)} (hl : (l.all fun x => shortN 9 x.2) = true) (z : Y.κ) : shortN 9 ((look Y l z).getD zForm) = true := by
  cases h : look Y l z with
  | none => decide +kernel
  | some f =>
    obtain ⟨x, hx, rfl⟩ := look_mem Y l z f h
    exact List.all_eq_true.1 hl x hx
theorem ints_refl (l : List Int) (hl : l.length ≤ 1000) : ∃ K, ∀ k, K ≤ k → passepartoutlaw13_ints.f k l l = some true := by
  have key : ∀ (m i : Nat), i + m = l.length → ∃ K, passepartoutlaw13_ints.l0 K l l (l.length : Int) (i : Int) = some true := by
    intro m
    induction m with
    | zero => intro i hi; exact ⟨1, by rw [passepartoutlaw13_ints.l0, if_neg (by omega)]⟩
    | succ m ih =>
      intro i hi
      obtain ⟨K, hK⟩ := ih (i + 1) (by omega)
      refine ⟨K + 1, ?_⟩
      have hw : wrap64 ((i : Int) + 1) = (i : Int) + 1 := IntWalk.wrap64_in _ ⟨by omega, by omega⟩
      rw [passepartoutlaw13_ints.l0, if_pos (by omega), if_pos (by omega), if_pos (by omega), if_pos (by omega), if_pos rfl, hw]
      simpa using hK
  obtain ⟨K, hK⟩ := key l.length 0 (by omega)
  refine ⟨K, up (passepartoutlaw13_ints.mono l l) ?_⟩
  rw [passepartoutlaw13_ints.f, if_pos rfl]
  exact hK
theorem places_is {k : Int} {l : List Int} (h : l.Perm (((extTab.map (·.1)).filter fun x => decide (x.2 = k)).map (·.1))) (hs : l.Pairwise fun x y => decide (x ≤ y) = true) : placesOf k = l := by
  unfold placesOf
  rw [← mergeSort_of_perm_i h]
  exact List.mergeSort_of_pairwise hs
theorem places_few (k : Int) : (placesOf k).length ≤ 1000 := by
  unfold placesOf
  rw [List.length_mergeSort, List.length_map]
  have h2 : (extTab.map (·.1)).length ≤ 1000 := by decide +kernel
  exact Nat.le_trans (List.length_filter_le _ _) h2
theorem alive_true : ∃ K, ∀ k, K ≤ k → passepartoutlaw13_alive.f k = some true := by
  obtain ⟨K1, h1⟩ := same_refl 9 ⟨0, 2, 0, 0, 0, []⟩ (by decide +kernel)
  obtain ⟨K2, h2⟩ := ints_refl [1, 4, 8] (by decide)
  refine ⟨max K1 K2, fun k hk => ?_⟩
  have e1 := h1 k (by omega)
  have e2 := h2 k (by omega)
  unfold same at e1
  have f1 : shape_Ext.f 2 41 = some (0, 2, 0, 0, 0, [], true) := by kernel_rfl
  have f2 : shape_Ext.f 8 41 = some (0, 0, 0, 0, 0, [], false) := by kernel_rfl
  have f3 : shape_Places.f 42 = some [1, 4, 8] := by
    have : placesOf 42 = [1, 4, 8] := places_is (by decide +kernel) (by decide)
    unfold shape_Places.f
    rw [this]
    rfl
  unfold passepartoutlaw13_alive.f
  rw [f1, f2, f3]
  simp only [Option.bind_some, if_true, if_false, Bool.false_eq_true]
  rw [e1]
  simp only [Option.bind_some, if_true]
  rw [e2]
  rfl

end Go.Proofs.Ytjlpgndcomligaa.Pure
