/- The Go function CodesBack of the law answers true at every kind, code and name; the numbers are ints, the name's length is one within the reach. -/
import Derived.Test.YtbfdbleancempaaHAllB
import Derived.Test.YtbfdbleancempaaPCodesBackx1
namespace Go.Proofs.Ytbfdbleancempaa
open Go Go.RowKit Go.Shelf Go.Maps Go.Proofs.Hand Go.Proofs.Ytbfdbleancempaa.PCodesBack
attribute [local go_sem] Oper.semAt_some

/-- What the last code was, if all have risen. -/
def rise : Int → List (Int × ByteArray) → Option Int
  | a, [] => some a
  | a, x :: l => if x.1 ≤ a then none else rise x.1 l
theorem rise_append : ∀ (p q : List (Int × ByteArray)) (a : Int), rise a (p ++ q) = (rise a p).bind fun v => rise v q
  | [], _, _ => rfl
  | x :: p, q, a => by
    simp only [List.cons_append, rise]
    split
    · rfl
    · exact rise_append p q x.1
theorem rise_snoc (p : List (Int × ByteArray)) (x : Int × ByteArray) (a : Int) : rise a (p ++ [x]) = (rise a p).bind fun v => if x.1 ≤ v then none else some x.1 := by
  rw [rise_append]; rfl
theorem rise_tab (k : Int) : rise (-1) (tab k) ≠ none := by
  unfold tab
  split
  · decide +kernel
  · split
    · decide +kernel
    · split
      · decide +kernel
      · simp [rise]
theorem rise_prefix {p t : List (Int × ByteArray)} (h : p <+: t) (ht : rise (-1) t ≠ none) : rise (-1) p ≠ none := by
  obtain ⟨q, rfl⟩ := h
  intro e
  rw [rise_append, e] at ht
  exact ht rfl
def NamesLive (l : List (Int × ByteArray)) : Prop := ∀ x ∈ l, x.2.data.size ≠ 0 ∧ x.2.size ≤ maxLen ∧ (Lit.int .i64 x.1).wf = true
instance (l : List (Int × ByteArray)) : Decidable (NamesLive l) := inferInstanceAs (Decidable (∀ x ∈ l, _))
theorem names_live (k : Int) : NamesLive (tab k) := by
  unfold tab
  split
  · decide +kernel
  · split
    · decide +kernel
    · split
      · decide +kernel
      · intro x hx; cases hx
theorem alive_is : passepartoutlaw08_alive.f = some true := by decide +kernel

set_option maxRecDepth 100000 in
set_option maxHeartbeats 4000000 in
theorem codesBack_walk (a0 a1 : Int) (a2 : ByteArray) (w : World) (w1 : (Lit.int .i64 a1).wf = true) (w2 : a2.size ≤ 140737488351232) :
    Calls Try.prog 7 #[.int .i64 a0, .int .i64 a1, .string a2] w fun e w' => e = .returned (.bool true) ∧ Below w.heap.size w w' := by
  have hal := fun W => passepartoutlaw08_alive.calls true W alive_is
  have hA : ∃ s ok, (∀ W, Calls Try.prog 8 #[.int .i64 a0, .int .i64 a1] W fun e w' => e = .returned (.tuple #[.string s, .bool ok]) ∧ Below W.heap.size W w') ∧
      (ok = true → (s.toList == ([] : List UInt8)) = false ∧ ∀ W, Calls Try.prog 10 #[.int .i64 a0, .string s] W fun e w' => e = .returned (.tuple #[.int .i64 a1, .bool true]) ∧ Below W.heap.size W w') := by
    refine ⟨_, _, fun W => codes_Name.calls a0 a1 _ _ W (by unfold codes_Name.f; rw [if_pos w1]), fun hok => ?_⟩
    cases hn : nameIn (tab a0) a1 with
    | none => rw [hn] at hok; cases hok
    | some s =>
      have hm := names_live a0 _ (nameIn_mem hn)
      refine ⟨?_, fun W => ?_⟩
      · rw [beq_eq_false_iff_ne]
        intro e
        rw [Option.getD_some, ByteArray.toList_eq] at e
        exact hm.1 (by rw [← Array.length_toList]; simp only; rw [e]; rfl)
      · refine codes_Code.calls a0 s _ _ W ?_
        unfold codes_Code.f
        rw [if_pos hm.2.1, name_code (good_tab a0) hn]
        rfl
  have hB : ∃ n ok, (∀ W, Calls Try.prog 10 #[.int .i64 a0, .string a2] W fun e w' => e = .returned (.tuple #[.int .i64 n, .bool ok]) ∧ Below W.heap.size W w') ∧
      (ok = true → ∀ W, Calls Try.prog 8 #[.int .i64 a0, .int .i64 n] W fun e w' => e = .returned (.tuple #[.string a2, .bool true]) ∧ Below W.heap.size W w') := by
    refine ⟨_, _, fun W => codes_Code.calls a0 a2 _ _ W (by unfold codes_Code.f; rw [if_pos (by unfold maxLen; omega)]), fun hok W => ?_⟩
    cases hn : codeIn (tab a0) a2.data.toList with
    | none => rw [hn] at hok; cases hok
    | some n =>
      obtain ⟨b, hb, e⟩ := code_name (good_tab a0) hn
      obtain rfl : b = a2 := by
        obtain ⟨⟨u⟩⟩ := b
        obtain ⟨⟨v⟩⟩ := a2
        simp only at e
        rw [e]
      have hm := names_live a0 _ (nameIn_mem hb)
      refine codes_Name.calls a0 _ _ _ W ?_
      unfold codes_Name.f
      rw [Option.getD_some, if_pos hm.2.2, hb]
      rfl
  obtain ⟨s, ok, hA, hA2⟩ := hA
  obtain ⟨m, is, hB, hB2⟩ := hB
  replace hA2 := Keep.mk hA2
  replace hB2 := Keep.mk hB2
  refine (callsIn_wide (n := 9)).1 ?_
  have h1 : (1 : Nat) ≤ 9 := by decide
  refine callsIn_of_wp_marks Try.func7 rfl trivial ?_ rfl
  simp only [Try.ntmps7, List.size_toArray, List.length_cons, List.length_nil, Nat.reduceAdd, Nat.reduceSub, Array.replicate_succ, Array.replicate_zero, List.push_toArray, List.append_toArray, List.nil_append, List.cons_append]
  have bR := Boxed.new w 4 (.bool false)
  have hR := Below.refl (w.alloc (.cells #[.bool false] 4)).heap.size (w.alloc (.cells #[.bool false] 4))
  cases ok with
  | true =>
    have hA3 := (hA2.out rfl).1
    have hA4 := (hA2.out rfl).2
    cases is with
    | true =>
      have hB3 := hB2.out rfl
      gi_wp2_with (first
        | (refine ⟨trivial, ?_⟩; gi_at_call 8; refine (callsIn_wide.2 (hA _)).mono ?_; clear hA; rintro e u1 ⟨rfl, hu1⟩; replace hR := hR.trans (hu1.mono hR.size))
        | (refine ⟨trivial, ?_⟩; gi_at_call 10; refine (callsIn_wide.2 (hA4 _)).mono ?_; clear hA4; rintro e u2 ⟨rfl, hu2⟩; replace hR := hR.trans (hu2.mono hR.size))
        | (refine ⟨trivial, ?_⟩; gi_at_call 10; refine (callsIn_wide.2 (hB _)).mono ?_; clear hB; rintro e u3 ⟨rfl, hu3⟩; replace hR := hR.trans (hu3.mono hR.size))
        | (refine ⟨trivial, ?_⟩; gi_at_call 8; refine (callsIn_wide.2 (hB3 _)).mono ?_; clear hB3; rintro e u4 ⟨rfl, hu4⟩; replace hR := hR.trans (hu4.mono hR.size))
        | (refine ⟨trivial, ?_⟩; gi_at_call 12; refine (callsIn_wide.2 (hal _)).mono ?_; rintro e u5 ⟨rfl, hu5⟩; replace hR := hR.trans (hu5.mono hR.size))
        | (refine ⟨trivial, ?_⟩; gi_at_call 16; refine (all_in Fence.wide _ trivial rfl a0 _).mono ?_; rintro e u6 ⟨rfl, rfl⟩))
      have bR5 : Boxed u5 w.heap.size 4 (.bool false) := (hR.block _ (by simp)).trans bR
      have hB5 : Below w.heap.size w u5 := ((Below.refl _ w).alloc (Nat.le_refl _) _).trans (hR.mono (by simp))
      have hs5 : w.heap.size + 1 ≤ u5.heap.size := by have := hR.size; simpa using this
      have bL := (Boxed.new u5 3 (.int .i64 (-1))).alloc (.cells #[.int .i64 a0] 3)
      have bK := Boxed.new (u5.alloc (.cells #[.int .i64 (-1)] 3)) 3 (.int .i64 a0)
      have bR6 := (bR5.alloc (.cells #[.int .i64 (-1)] 3)).alloc (.cells #[.int .i64 a0] 3)
      have hB6 : Below w.heap.size w ((u5.alloc (.cells #[.int .i64 (-1)] 3)).alloc (.cells #[.int .i64 a0] 3)) := (hB5.alloc (by omega) _).alloc (by simp; omega) _
      have hs6 : ((u5.alloc (.cells #[.int .i64 (-1)] 3)).alloc (.cells #[.int .i64 a0] 3)).heap.size = u5.heap.size + 1 + 1 := by simp
      rw [World.size_alloc] at bK
      obtain ⟨W6, hW6⟩ : ∃ W6, (u5.alloc (.cells #[.int .i64 (-1)] 3)).alloc (.cells #[.int .i64 a0] 3) = W6 := ⟨_, rfl⟩
      rw [hW6] at bL bK bR6 hB6 hs6 ⊢
      clear hW6
      refine range_seq rfl (by decide) (gf := 18) (lb := #[.pointer (some ⟨u5.heap.size + 1, 0, none⟩)]) rfl trivial (enters_of Try.func18 (by kernel_rfl) rfl)
        (all_seq 8 (by decide) a0 (u5.heap.size + 1) W6 (by omega) bK.cell) (fun _ _ => trivial) (fun _ _ _ _ => trivial) (Below.refl _ _) (fun _ => rfl)
        (fun pre Wx => ((∃ v, rise (-1) pre = some v ∧ Boxed Wx u5.heap.size 3 (.int .i64 v)) ∧ Boxed Wx w.heap.size 4 (.bool false)) ∧ Below w.heap.size w Wx)
        (fun c pre Wx => c = .ret ∧ rise (-1) pre = none)
        (AbB.and (AbB.and (fun s A B hs hb => by obtain ⟨v, e, h⟩ := hs; exact ⟨v, e, (hb.block _ (by omega)).trans h⟩) (fun s A B hs hb => (hb.block _ (by omega)).trans hs)) (AbB.below (by omega)))
        (fun c s A B hs _ => hs)
        ⟨⟨⟨-1, rfl, bL⟩, bR6⟩, hB6⟩ ?act1 ?assign1 ?body1 ?done1 ?stop1
      case assign1 =>
        intro l2 x Wx K hK
        gi_wp2
        exact hK
      case body1 =>
        rintro l2 pre x Wx ⟨⟨⟨v, hv, bV⟩, bX⟩, hBx⟩ hpl hszx
        have cV := bV.cell
        have fV := bV.frozen
        have cX := bX.cell
        have fX := bX.frozen
        gi_wp2
        · rename_i hle
          refine ⟨From.setCell _ _ (by simp; omega) _, rfl, ?_⟩
          rw [rise_snoc, hv]
          exact if_pos hle
        · rename_i hle
          refine ⟨From.setCell _ _ (by simp; omega) _, trivial, ⟨⟨x.1, ?_, bV.set _⟩, bX.other (by omega) _⟩, hBx.setCell (by simp; omega) _⟩
          rw [rise_snoc, hv]
          exact if_neg (by omega)
      case done1 =>
        rintro D ys Wd hD rfl ⟨⟨⟨v, hv, bV⟩, bX⟩, hBx⟩ hK
        have cX := bX.cell
        have fX := bX.frozen
        gi_wp2
        have hK' := (KeepsOthers.setCell Wd ⟨w.heap.size, 0, none⟩ (.bool true)).same D _ hK rfl
        refine ⟨by simp, .inl ⟨_, _, rfl, run_takeDeferred hK', ?_⟩⟩
        have hc5 := cell_kept (bX.set (.bool true)).cell (grownBy_putObj' _ D (.deferred none)) (fun r e => by cases e; exact ⟨_, hK', rfl⟩)
        refine ⟨.bool true, ?_, rfl, (hBx.setCell (p := ⟨w.heap.size, 0, none⟩) (by simp) _).trans (below_putObj _ _ (by have := hB6.size; omega))⟩
        simp [results, Try.f7, go_sem, hc5]
      case stop1 =>
        rintro D c pre Wd hD hpre ⟨rfl, hn⟩ hK
        exact absurd hn (rise_prefix hpre (rise_tab a0))
    | false =>
      gi_wp2_with (first
        | (refine ⟨trivial, ?_⟩; gi_at_call 8; refine (callsIn_wide.2 (hA _)).mono ?_; clear hA; rintro e u1 ⟨rfl, hu1⟩; replace hR := hR.trans (hu1.mono hR.size))
        | (refine ⟨trivial, ?_⟩; gi_at_call 10; refine (callsIn_wide.2 (hA4 _)).mono ?_; clear hA4; rintro e u2 ⟨rfl, hu2⟩; replace hR := hR.trans (hu2.mono hR.size))
        | (refine ⟨trivial, ?_⟩; gi_at_call 10; refine (callsIn_wide.2 (hB _)).mono ?_; clear hB; rintro e u3 ⟨rfl, hu3⟩; replace hR := hR.trans (hu3.mono hR.size))
        | (refine ⟨trivial, ?_⟩; gi_at_call 12; refine (callsIn_wide.2 (hal _)).mono ?_; rintro e u5 ⟨rfl, hu5⟩; replace hR := hR.trans (hu5.mono hR.size))
        | (refine ⟨trivial, ?_⟩; gi_at_call 16; refine (all_in Fence.wide _ trivial rfl a0 _).mono ?_; rintro e u6 ⟨rfl, rfl⟩))
      have bR5 : Boxed u5 w.heap.size 4 (.bool false) := (hR.block _ (by simp)).trans bR
      have hB5 : Below w.heap.size w u5 := ((Below.refl _ w).alloc (Nat.le_refl _) _).trans (hR.mono (by simp))
      have hs5 : w.heap.size + 1 ≤ u5.heap.size := by have := hR.size; simpa using this
      have bL := (Boxed.new u5 3 (.int .i64 (-1))).alloc (.cells #[.int .i64 a0] 3)
      have bK := Boxed.new (u5.alloc (.cells #[.int .i64 (-1)] 3)) 3 (.int .i64 a0)
      have bR6 := (bR5.alloc (.cells #[.int .i64 (-1)] 3)).alloc (.cells #[.int .i64 a0] 3)
      have hB6 : Below w.heap.size w ((u5.alloc (.cells #[.int .i64 (-1)] 3)).alloc (.cells #[.int .i64 a0] 3)) := (hB5.alloc (by omega) _).alloc (by simp; omega) _
      have hs6 : ((u5.alloc (.cells #[.int .i64 (-1)] 3)).alloc (.cells #[.int .i64 a0] 3)).heap.size = u5.heap.size + 1 + 1 := by simp
      rw [World.size_alloc] at bK
      obtain ⟨W6, hW6⟩ : ∃ W6, (u5.alloc (.cells #[.int .i64 (-1)] 3)).alloc (.cells #[.int .i64 a0] 3) = W6 := ⟨_, rfl⟩
      rw [hW6] at bL bK bR6 hB6 hs6 ⊢
      clear hW6
      refine range_seq rfl (by decide) (gf := 18) (lb := #[.pointer (some ⟨u5.heap.size + 1, 0, none⟩)]) rfl trivial (enters_of Try.func18 (by kernel_rfl) rfl)
        (all_seq 8 (by decide) a0 (u5.heap.size + 1) W6 (by omega) bK.cell) (fun _ _ => trivial) (fun _ _ _ _ => trivial) (Below.refl _ _) (fun _ => rfl)
        (fun pre Wx => ((∃ v, rise (-1) pre = some v ∧ Boxed Wx u5.heap.size 3 (.int .i64 v)) ∧ Boxed Wx w.heap.size 4 (.bool false)) ∧ Below w.heap.size w Wx)
        (fun c pre Wx => c = .ret ∧ rise (-1) pre = none)
        (AbB.and (AbB.and (fun s A B hs hb => by obtain ⟨v, e, h⟩ := hs; exact ⟨v, e, (hb.block _ (by omega)).trans h⟩) (fun s A B hs hb => (hb.block _ (by omega)).trans hs)) (AbB.below (by omega)))
        (fun c s A B hs _ => hs)
        ⟨⟨⟨-1, rfl, bL⟩, bR6⟩, hB6⟩ ?act3 ?assign3 ?body3 ?done3 ?stop3
      case assign3 =>
        intro l2 x Wx K hK
        gi_wp2
        exact hK
      case body3 =>
        rintro l2 pre x Wx ⟨⟨⟨v, hv, bV⟩, bX⟩, hBx⟩ hpl hszx
        have cV := bV.cell
        have fV := bV.frozen
        have cX := bX.cell
        have fX := bX.frozen
        gi_wp2
        · rename_i hle
          refine ⟨From.setCell _ _ (by simp; omega) _, rfl, ?_⟩
          rw [rise_snoc, hv]
          exact if_pos hle
        · rename_i hle
          refine ⟨From.setCell _ _ (by simp; omega) _, trivial, ⟨⟨x.1, ?_, bV.set _⟩, bX.other (by omega) _⟩, hBx.setCell (by simp; omega) _⟩
          rw [rise_snoc, hv]
          exact if_neg (by omega)
      case done3 =>
        rintro D ys Wd hD rfl ⟨⟨⟨v, hv, bV⟩, bX⟩, hBx⟩ hK
        have cX := bX.cell
        have fX := bX.frozen
        gi_wp2
        have hK' := (KeepsOthers.setCell Wd ⟨w.heap.size, 0, none⟩ (.bool true)).same D _ hK rfl
        refine ⟨by simp, .inl ⟨_, _, rfl, run_takeDeferred hK', ?_⟩⟩
        have hc5 := cell_kept (bX.set (.bool true)).cell (grownBy_putObj' _ D (.deferred none)) (fun r e => by cases e; exact ⟨_, hK', rfl⟩)
        refine ⟨.bool true, ?_, rfl, (hBx.setCell (p := ⟨w.heap.size, 0, none⟩) (by simp) _).trans (below_putObj _ _ (by have := hB6.size; omega))⟩
        simp [results, Try.f7, go_sem, hc5]
      case stop3 =>
        rintro D c pre Wd hD hpre ⟨rfl, hn⟩ hK
        exact absurd hn (rise_prefix hpre (rise_tab a0))
  | false =>
    cases is with
    | true =>
      have hB3 := hB2.out rfl
      gi_wp2_with (first
        | (refine ⟨trivial, ?_⟩; gi_at_call 8; refine (callsIn_wide.2 (hA _)).mono ?_; clear hA; rintro e u1 ⟨rfl, hu1⟩; replace hR := hR.trans (hu1.mono hR.size))
        | (refine ⟨trivial, ?_⟩; gi_at_call 10; refine (callsIn_wide.2 (hB _)).mono ?_; clear hB; rintro e u3 ⟨rfl, hu3⟩; replace hR := hR.trans (hu3.mono hR.size))
        | (refine ⟨trivial, ?_⟩; gi_at_call 8; refine (callsIn_wide.2 (hB3 _)).mono ?_; clear hB3; rintro e u4 ⟨rfl, hu4⟩; replace hR := hR.trans (hu4.mono hR.size))
        | (refine ⟨trivial, ?_⟩; gi_at_call 12; refine (callsIn_wide.2 (hal _)).mono ?_; rintro e u5 ⟨rfl, hu5⟩; replace hR := hR.trans (hu5.mono hR.size))
        | (refine ⟨trivial, ?_⟩; gi_at_call 16; refine (all_in Fence.wide _ trivial rfl a0 _).mono ?_; rintro e u6 ⟨rfl, rfl⟩))
      have bR5 : Boxed u5 w.heap.size 4 (.bool false) := (hR.block _ (by simp)).trans bR
      have hB5 : Below w.heap.size w u5 := ((Below.refl _ w).alloc (Nat.le_refl _) _).trans (hR.mono (by simp))
      have hs5 : w.heap.size + 1 ≤ u5.heap.size := by have := hR.size; simpa using this
      have bL := (Boxed.new u5 3 (.int .i64 (-1))).alloc (.cells #[.int .i64 a0] 3)
      have bK := Boxed.new (u5.alloc (.cells #[.int .i64 (-1)] 3)) 3 (.int .i64 a0)
      have bR6 := (bR5.alloc (.cells #[.int .i64 (-1)] 3)).alloc (.cells #[.int .i64 a0] 3)
      have hB6 : Below w.heap.size w ((u5.alloc (.cells #[.int .i64 (-1)] 3)).alloc (.cells #[.int .i64 a0] 3)) := (hB5.alloc (by omega) _).alloc (by simp; omega) _
      have hs6 : ((u5.alloc (.cells #[.int .i64 (-1)] 3)).alloc (.cells #[.int .i64 a0] 3)).heap.size = u5.heap.size + 1 + 1 := by simp
      rw [World.size_alloc] at bK
      obtain ⟨W6, hW6⟩ : ∃ W6, (u5.alloc (.cells #[.int .i64 (-1)] 3)).alloc (.cells #[.int .i64 a0] 3) = W6 := ⟨_, rfl⟩
      rw [hW6] at bL bK bR6 hB6 hs6 ⊢
      clear hW6
      refine range_seq rfl (by decide) (gf := 18) (lb := #[.pointer (some ⟨u5.heap.size + 1, 0, none⟩)]) rfl trivial (enters_of Try.func18 (by kernel_rfl) rfl)
        (all_seq 8 (by decide) a0 (u5.heap.size + 1) W6 (by omega) bK.cell) (fun _ _ => trivial) (fun _ _ _ _ => trivial) (Below.refl _ _) (fun _ => rfl)
        (fun pre Wx => ((∃ v, rise (-1) pre = some v ∧ Boxed Wx u5.heap.size 3 (.int .i64 v)) ∧ Boxed Wx w.heap.size 4 (.bool false)) ∧ Below w.heap.size w Wx)
        (fun c pre Wx => c = .ret ∧ rise (-1) pre = none)
        (AbB.and (AbB.and (fun s A B hs hb => by obtain ⟨v, e, h⟩ := hs; exact ⟨v, e, (hb.block _ (by omega)).trans h⟩) (fun s A B hs hb => (hb.block _ (by omega)).trans hs)) (AbB.below (by omega)))
        (fun c s A B hs _ => hs)
        ⟨⟨⟨-1, rfl, bL⟩, bR6⟩, hB6⟩ ?act5 ?assign5 ?body5 ?done5 ?stop5
      case assign5 =>
        intro l2 x Wx K hK
        gi_wp2
        exact hK
      case body5 =>
        rintro l2 pre x Wx ⟨⟨⟨v, hv, bV⟩, bX⟩, hBx⟩ hpl hszx
        have cV := bV.cell
        have fV := bV.frozen
        have cX := bX.cell
        have fX := bX.frozen
        gi_wp2
        · rename_i hle
          refine ⟨From.setCell _ _ (by simp; omega) _, rfl, ?_⟩
          rw [rise_snoc, hv]
          exact if_pos hle
        · rename_i hle
          refine ⟨From.setCell _ _ (by simp; omega) _, trivial, ⟨⟨x.1, ?_, bV.set _⟩, bX.other (by omega) _⟩, hBx.setCell (by simp; omega) _⟩
          rw [rise_snoc, hv]
          exact if_neg (by omega)
      case done5 =>
        rintro D ys Wd hD rfl ⟨⟨⟨v, hv, bV⟩, bX⟩, hBx⟩ hK
        have cX := bX.cell
        have fX := bX.frozen
        gi_wp2
        have hK' := (KeepsOthers.setCell Wd ⟨w.heap.size, 0, none⟩ (.bool true)).same D _ hK rfl
        refine ⟨by simp, .inl ⟨_, _, rfl, run_takeDeferred hK', ?_⟩⟩
        have hc5 := cell_kept (bX.set (.bool true)).cell (grownBy_putObj' _ D (.deferred none)) (fun r e => by cases e; exact ⟨_, hK', rfl⟩)
        refine ⟨.bool true, ?_, rfl, (hBx.setCell (p := ⟨w.heap.size, 0, none⟩) (by simp) _).trans (below_putObj _ _ (by have := hB6.size; omega))⟩
        simp [results, Try.f7, go_sem, hc5]
      case stop5 =>
        rintro D c pre Wd hD hpre ⟨rfl, hn⟩ hK
        exact absurd hn (rise_prefix hpre (rise_tab a0))
    | false =>
      gi_wp2_with (first
        | (refine ⟨trivial, ?_⟩; gi_at_call 8; refine (callsIn_wide.2 (hA _)).mono ?_; clear hA; rintro e u1 ⟨rfl, hu1⟩; replace hR := hR.trans (hu1.mono hR.size))
        | (refine ⟨trivial, ?_⟩; gi_at_call 10; refine (callsIn_wide.2 (hB _)).mono ?_; clear hB; rintro e u3 ⟨rfl, hu3⟩; replace hR := hR.trans (hu3.mono hR.size))
        | (refine ⟨trivial, ?_⟩; gi_at_call 12; refine (callsIn_wide.2 (hal _)).mono ?_; rintro e u5 ⟨rfl, hu5⟩; replace hR := hR.trans (hu5.mono hR.size))
        | (refine ⟨trivial, ?_⟩; gi_at_call 16; refine (all_in Fence.wide _ trivial rfl a0 _).mono ?_; rintro e u6 ⟨rfl, rfl⟩))
      have bR5 : Boxed u5 w.heap.size 4 (.bool false) := (hR.block _ (by simp)).trans bR
      have hB5 : Below w.heap.size w u5 := ((Below.refl _ w).alloc (Nat.le_refl _) _).trans (hR.mono (by simp))
      have hs5 : w.heap.size + 1 ≤ u5.heap.size := by have := hR.size; simpa using this
      have bL := (Boxed.new u5 3 (.int .i64 (-1))).alloc (.cells #[.int .i64 a0] 3)
      have bK := Boxed.new (u5.alloc (.cells #[.int .i64 (-1)] 3)) 3 (.int .i64 a0)
      have bR6 := (bR5.alloc (.cells #[.int .i64 (-1)] 3)).alloc (.cells #[.int .i64 a0] 3)
      have hB6 : Below w.heap.size w ((u5.alloc (.cells #[.int .i64 (-1)] 3)).alloc (.cells #[.int .i64 a0] 3)) := (hB5.alloc (by omega) _).alloc (by simp; omega) _
      have hs6 : ((u5.alloc (.cells #[.int .i64 (-1)] 3)).alloc (.cells #[.int .i64 a0] 3)).heap.size = u5.heap.size + 1 + 1 := by simp
      rw [World.size_alloc] at bK
      obtain ⟨W6, hW6⟩ : ∃ W6, (u5.alloc (.cells #[.int .i64 (-1)] 3)).alloc (.cells #[.int .i64 a0] 3) = W6 := ⟨_, rfl⟩
      rw [hW6] at bL bK bR6 hB6 hs6 ⊢
      clear hW6
      refine range_seq rfl (by decide) (gf := 18) (lb := #[.pointer (some ⟨u5.heap.size + 1, 0, none⟩)]) rfl trivial (enters_of Try.func18 (by kernel_rfl) rfl)
        (all_seq 8 (by decide) a0 (u5.heap.size + 1) W6 (by omega) bK.cell) (fun _ _ => trivial) (fun _ _ _ _ => trivial) (Below.refl _ _) (fun _ => rfl)
        (fun pre Wx => ((∃ v, rise (-1) pre = some v ∧ Boxed Wx u5.heap.size 3 (.int .i64 v)) ∧ Boxed Wx w.heap.size 4 (.bool false)) ∧ Below w.heap.size w Wx)
        (fun c pre Wx => c = .ret ∧ rise (-1) pre = none)
        (AbB.and (AbB.and (fun s A B hs hb => by obtain ⟨v, e, h⟩ := hs; exact ⟨v, e, (hb.block _ (by omega)).trans h⟩) (fun s A B hs hb => (hb.block _ (by omega)).trans hs)) (AbB.below (by omega)))
        (fun c s A B hs _ => hs)
        ⟨⟨⟨-1, rfl, bL⟩, bR6⟩, hB6⟩ ?act7 ?assign7 ?body7 ?done7 ?stop7
      case assign7 =>
        intro l2 x Wx K hK
        gi_wp2
        exact hK
      case body7 =>
        rintro l2 pre x Wx ⟨⟨⟨v, hv, bV⟩, bX⟩, hBx⟩ hpl hszx
        have cV := bV.cell
        have fV := bV.frozen
        have cX := bX.cell
        have fX := bX.frozen
        gi_wp2
        · rename_i hle
          refine ⟨From.setCell _ _ (by simp; omega) _, rfl, ?_⟩
          rw [rise_snoc, hv]
          exact if_pos hle
        · rename_i hle
          refine ⟨From.setCell _ _ (by simp; omega) _, trivial, ⟨⟨x.1, ?_, bV.set _⟩, bX.other (by omega) _⟩, hBx.setCell (by simp; omega) _⟩
          rw [rise_snoc, hv]
          exact if_neg (by omega)
      case done7 =>
        rintro D ys Wd hD rfl ⟨⟨⟨v, hv, bV⟩, bX⟩, hBx⟩ hK
        have cX := bX.cell
        have fX := bX.frozen
        gi_wp2
        have hK' := (KeepsOthers.setCell Wd ⟨w.heap.size, 0, none⟩ (.bool true)).same D _ hK rfl
        refine ⟨by simp, .inl ⟨_, _, rfl, run_takeDeferred hK', ?_⟩⟩
        have hc5 := cell_kept (bX.set (.bool true)).cell (grownBy_putObj' _ D (.deferred none)) (fun r e => by cases e; exact ⟨_, hK', rfl⟩)
        refine ⟨.bool true, ?_, rfl, (hBx.setCell (p := ⟨w.heap.size, 0, none⟩) (by simp) _).trans (below_putObj _ _ (by have := hB6.size; omega))⟩
        simp [results, Try.f7, go_sem, hc5]
      case stop7 =>
        rintro D c pre Wd hD hpre ⟨rfl, hn⟩ hK
        exact absurd hn (rise_prefix hpre (rise_tab a0))
end Go.Proofs.Ytbfdbleancempaa
