/- The Go function legal.Check tells the first extension of which something is wrong, and what; the place is an int's number, the types too, and there are at most 1000 extensions. -/
import Derived.Test.YtpndiobbogelpaaHMay
import Derived.Test.YtpndiobbogelpaaHMaps
import Derived.WalkMore
namespace Go.Proofs.Ytpndiobbogelpaa
open Go Go.RowKit Go.Maps Go.Proofs.Hand Go.Proofs.YtpndiobbogelpaaW.PrintWords Go.Proofs.YtpndiobbogelpaaW.PrintLast Go.Proofs.YtpndiobbogelpaaW.PrintMore
set_option maxRecDepth 100000

/-- May it stand there? -/
def mayB (p k : Int) : Bool := (legal_May.f p k).getD false
def placeB (p : Int) : Bool := (legal_Place.f p).getD false
theorem place_some (p : Int) : legal_Place.f p = some (placeB p) := by
  unfold placeB legal_Place.f
  repeat' split
  all_goals rfl
theorem may_some {p k : Int} (hp : (Lit.int .i64 p).wf = true) (hk : (Lit.int .i64 k).wf = true) : legal_May.f p k = some (mayB p k) := by
  obtain ⟨b, hb⟩ : ∃ b, legal_May.f p k = some b := by
    unfold legal_May.f
    rw [place_some]
    simp only [Option.bind_some]
    split
    · unfold shape_Ext.f
      rw [if_pos ⟨hp, hk⟩]
      simp only [Option.bind_some]
      split
      · exact ⟨_, rfl⟩
      · unfold legal_Known.f codes_Name.f
        rw [if_pos hk]
        exact ⟨_, rfl⟩
    · exact ⟨_, rfl⟩
  unfold mayB
  rw [hb]
  rfl
/-- What is wrong with the first of which something is, those of the types seen and so many being ahead. -/
def chk (p : Int) : List Int → Nat → List S38 → Int × Int
  | _, _, [] => (0, 0)
  | seen, i, x :: r =>
    if decide (x.f0 < 0) || decide (65535 < x.f0) || decide (65535 < (x.f1.length : Int)) then ((i : Int), 3)
    else if seen.contains x.f0 then ((i : Int), 7)
    else if mayB p x.f0 = false then ((i : Int), 8)
    else if x.f0 = 41 ∧ p = 1 ∧ r ≠ [] then ((i : Int), 16)
    else chk p (x.f0 :: seen) (i + 1) r
def chkOk (p : Int) (l : List S38) : Bool := (Lit.int .i64 p).wf && Nat.ble l.length 1000 && l.all fun x => (Lit.int .i64 x.f0).wf
def legal_Check.f (a0 : Int) (l1 : List S38) : Option (Int × Int) := if chkOk a0 l1 = true then some (if placeB a0 = true then chk a0 [] 0 l1 else (0, 2)) else none
/-- How often the types have come, while none came twice. -/
def seenM (seen : List Int) : Lit → Option Value
  | .int .i64 k => if seen.contains k then some (.int .i64 1) else none
  | _ => none
theorem seen_get (seen : List Int) (k : Int) : (seenM seen (.int .i64 k)).getD (.int .i64 0) = .int .i64 (if seen.contains k then 1 else 0) := by
  show (if seen.contains k then some (Value.int .i64 1) else none).getD _ = _
  cases seen.contains k <;> rfl
theorem seen_add (seen : List Int) (k : Int) (z : Lit) : (if z.sameKey (.int .i64 k) then some (Value.int .i64 1) else seenM seen z) = seenM (k :: seen) z := by
  cases z with
  | int q n =>
    cases q <;> simp [seenM, Lit.sameKey]
    by_cases e : n = k
    · simp [e]
    · simp [e]
  | _ => simp [seenM, Lit.sameKey]
theorem zeroInt (w : World) : (zeroValue 3).run Try.prog w = .ok (.int .i64 0) w := by kernel_rfl
theorem lawI : Keyed Try.prog 3 := int_keyed Try.underlying3
theorem look_new {W : World} {b n : Nat} {M : Lit → Option Value} {x : Int} {v : Value} (h : IsMap W Try.prog 3 b n (fun z => if z.sameKey (.int .i64 x) then some v else M z)) (hwf : (Lit.int .i64 x).wf = true) : (Instr.lookup 46 (.map (some b)) (.int .i64 x) false).run Try.prog W = .ok v W := by
  have := h.look_one lawI Try.underlying46 (zeroInt W) (keyOf_int_mk Try.underlying3 hwf)
  simpa [Lit.sameKey] using this
set_option maxHeartbeats 8000000 in
theorem legal_Check.calls (a0 : Int) (A1 : Option Addr) (c1 : Nat) (l1 : List S38) (r1 : Int) (r2 : Int) (w : World) (hr1 : Kd.C k38 w A1 l1.length l1) (hc1 : l1.length ≤ c1) (h : legal_Check.f a0 l1 = some (r1, r2)) :
    Calls Try.prog 10 #[.int .i64 a0, .slice A1 l1.length c1] w fun e w' => e = .returned (.tuple #[.int .i64 r1, .int .i64 r2]) ∧ Below w.heap.size w w' := by
  unfold legal_Check.f at h
  split at h
  case isFalse => cases h
  rename_i hok
  simp only [chkOk, Bool.and_eq_true] at hok
  obtain ⟨⟨hp, hl⟩, hall⟩ := hok
  replace hl := Nat.le_of_ble_eq_true hl
  have hpl := place_some a0
  replace hr1 := Aside0.mk hr1
  have hmm := @run_makeMap Try.prog
  by_cases hb : placeB a0 = true
  · rw [if_pos hb] at h
    rw [hb] at hpl
    have h' := (Option.some.inj h).symm
    clear h
    have hpl' := Aside0.mk hpl
    clear hpl
    go_enter Try.func10, Try.ntmps10
    go_wp2
    go_step3
    go_wp2_with (first
      | (go_at_call 14; refine (legal_Place.calls a0 true _ hpl'.out).mono ?_; rintro e w1 ⟨rfl, ⟨nd, rfl⟩⟩))
    go_step3
    go_wp2
    have hB0 : Below w.heap.size w ((w.drewN nd).alloc (.map #[] 0)) := (pw_below_drewN (Below.refl _ w) nd).alloc (by simp) _
    have hM0 : IsMap ((w.drewN nd).alloc (.map #[] 0)) Try.prog 3 w.heap.size 0 (seenM []) := by
      have h0 := isMap_made (w.drewN nd) Try.prog 3
      have e : (w.drewN nd).heap.size = w.heap.size := by simp
      rw [e] at h0
      exact h0.congr (fun kl => by cases kl with | int q n => cases q <;> rfl | _ => rfl)
    obtain ⟨W0, hW0⟩ : ∃ W0, (w.drewN nd).alloc (.map #[] 0) = W0 := ⟨_, rfl⟩
    rw [hW0] at hB0 hM0
    go_loopw [7, 8, 17] (fun v7 v8 v17 wr => ∃ (j : Nat) (seen : List Int), v7 = .int .i64 0 ∧ v8 = .int .i64 0 ∧ v17 = .int .i64 (j : Int) ∧ j ≤ l1.length ∧ chk a0 [] 0 l1 = chk a0 seen j (l1.drop j) ∧ IsMap wr Try.prog 3 w.heap.size j (seenM seen) ∧ Below w.heap.size w wr)
      (fun _ _ v17 _ => l1.length - (intOf v17).toNat)
    case atStart => exact ⟨0, [], rfl, rfl, rfl, Nat.zero_le _, rfl, by rw [hW0]; exact hM0, by rw [hW0]; exact hB0⟩
    case round =>
      obtain ⟨j, seen, rfl, rfl, rfl, hj, hchk, hM, hB⟩ := hrel
      by_cases hlt : j < l1.length
      · have hC := Kd.C_below hr1.out hB
        obtain ⟨ad, A2, c2, rfl, y0, y1, hc2, -⟩ := at_T38 hC (j : Int) (by omega) (by omega)
        have hx : rd_T38 l1 (j : Int) = l1[j] := by simp [rd_T38, List.getD, List.getElem?_eq_getElem hlt]
        have hd : l1.drop j = l1[j] :: l1.drop (j + 1) := List.drop_eq_getElem_cons hlt
        rw [hx] at y0 y1 hc2
        have hwf : (Lit.int .i64 l1[j].f0).wf = true := List.all_eq_true.1 hall _ (List.getElem_mem hlt)
        rw [hd] at hchk
        generalize l1[j] = x at *
        have hmx := mixed
        have pi : (0 : Int) ≤ (j : Int) := by omega
        have qi : (j : Int) < (l1.length : Int) := by omega
        have hM5 := hM.alloc (.cells #[.int .i64 x.f0, .slice A2 x.f1.length c2] 38)
        have hlk := hM5.look_one lawI Try.underlying46 (zeroInt _) (keyOf_int_mk Try.underlying3 hwf)
        rw [seen_get] at hlk
        simp only [Int.toNat_natCast] at y0 y1
        replace hC := Aside0.mk hC
        replace hM5 := Aside0.mk hM5
        have hm := Aside0.mk (may_some hp hwf)
        have e := h'.trans hchk
        by_cases g0 : x.f0 < 0
        · have k0 : decide (x.f0 < 0) = true := decide_eq_true g0
          simp only [chk, k0, Bool.true_or, if_true, Prod.mk.injEq] at e
          obtain ⟨rfl, rfl⟩ := e
          cases hs : seen.contains x.f0 <;> rw [hs] at hlk <;> simp only [Bool.false_eq_true, if_false, if_true] at hlk
          · go_wp2_with (first
              | (at_mapUpdate; refine wpList_mapUpdate_is _ rfl _ _ _ 46 rfl 3 3 lawI Try.underlying46 _ _ _ rfl hM5.out (by unfold maxLen; omega) _ _ _ rfl rfl (keyOf_int_mk Try.underlying3 hwf) ?_; intro w2 hM2 hg2; (try go_frame); have hlk2 := look_new hM2 hwf; have hb2 := (hg2.block _ (by rw [World.size_alloc]; omega) (by have := hM5.out.lt; intro e; have := Option.some.inj e; have := hM.lt; omega)).trans (heap_at wr (.cells #[.int .i64 x.f0, .slice A2 x.f1.length c2] 38) wr.heap.size rfl); have z0 := Joins.cell_of_block hb2 0; have z1 := Joins.cell_of_block hb2 1; simp only [List.getElem?_toArray, List.getElem?_cons_zero, List.getElem?_cons_succ] at z0 z1; replace hb2 := Aside0.mk hb2; replace hM2 := Aside0.mk hM2))
            have hB2 := (hB.alloc hB.size (.cells #[.int .i64 x.f0, .slice A2 x.f1.length c2] 38)).grown hg2 (by have := hB.size; rw [World.size_alloc]; omega) (fun k hk => by cases hk; exact Nat.le_refl _)
            (try rw [Exit.noGoto_ret])
            go_ret2
            exact ⟨rfl, hB2⟩
          · go_wp2_with (first
              | (at_mapUpdate; refine wpList_mapUpdate_is _ rfl _ _ _ 46 rfl 3 3 lawI Try.underlying46 _ _ _ rfl hM5.out (by unfold maxLen; omega) _ _ _ rfl rfl (keyOf_int_mk Try.underlying3 hwf) ?_; intro w2 hM2 hg2; (try go_frame); have hlk2 := look_new hM2 hwf; have hb2 := (hg2.block _ (by rw [World.size_alloc]; omega) (by have := hM5.out.lt; intro e; have := Option.some.inj e; have := hM.lt; omega)).trans (heap_at wr (.cells #[.int .i64 x.f0, .slice A2 x.f1.length c2] 38) wr.heap.size rfl); have z0 := Joins.cell_of_block hb2 0; have z1 := Joins.cell_of_block hb2 1; simp only [List.getElem?_toArray, List.getElem?_cons_zero, List.getElem?_cons_succ] at z0 z1; replace hb2 := Aside0.mk hb2; replace hM2 := Aside0.mk hM2))
            have hB2 := (hB.alloc hB.size (.cells #[.int .i64 x.f0, .slice A2 x.f1.length c2] 38)).grown hg2 (by have := hB.size; rw [World.size_alloc]; omega) (fun k hk => by cases hk; exact Nat.le_refl _)
            (try rw [Exit.noGoto_ret])
            go_ret2
            exact ⟨rfl, hB2⟩
        · have k0 : decide (x.f0 < 0) = false := decide_eq_false g0
          by_cases g1 : 65535 < x.f0
          · have k1 : decide (65535 < x.f0) = true := decide_eq_true g1
            simp only [chk, k0, k1, Bool.true_or, Bool.or_true, if_true, Prod.mk.injEq] at e
            obtain ⟨rfl, rfl⟩ := e
            cases hs : seen.contains x.f0 <;> rw [hs] at hlk <;> simp only [Bool.false_eq_true, if_false, if_true] at hlk
            · go_wp2_with (first
                | (at_mapUpdate; refine wpList_mapUpdate_is _ rfl _ _ _ 46 rfl 3 3 lawI Try.underlying46 _ _ _ rfl hM5.out (by unfold maxLen; omega) _ _ _ rfl rfl (keyOf_int_mk Try.underlying3 hwf) ?_; intro w2 hM2 hg2; (try go_frame); have hlk2 := look_new hM2 hwf; have hb2 := (hg2.block _ (by rw [World.size_alloc]; omega) (by have := hM5.out.lt; intro e; have := Option.some.inj e; have := hM.lt; omega)).trans (heap_at wr (.cells #[.int .i64 x.f0, .slice A2 x.f1.length c2] 38) wr.heap.size rfl); have z0 := Joins.cell_of_block hb2 0; have z1 := Joins.cell_of_block hb2 1; simp only [List.getElem?_toArray, List.getElem?_cons_zero, List.getElem?_cons_succ] at z0 z1; replace hb2 := Aside0.mk hb2; replace hM2 := Aside0.mk hM2))
              have hB2 := (hB.alloc hB.size (.cells #[.int .i64 x.f0, .slice A2 x.f1.length c2] 38)).grown hg2 (by have := hB.size; rw [World.size_alloc]; omega) (fun k hk => by cases hk; exact Nat.le_refl _)
              (try rw [Exit.noGoto_ret])
              go_ret2
              exact ⟨rfl, hB2⟩
            · go_wp2_with (first
                | (at_mapUpdate; refine wpList_mapUpdate_is _ rfl _ _ _ 46 rfl 3 3 lawI Try.underlying46 _ _ _ rfl hM5.out (by unfold maxLen; omega) _ _ _ rfl rfl (keyOf_int_mk Try.underlying3 hwf) ?_; intro w2 hM2 hg2; (try go_frame); have hlk2 := look_new hM2 hwf; have hb2 := (hg2.block _ (by rw [World.size_alloc]; omega) (by have := hM5.out.lt; intro e; have := Option.some.inj e; have := hM.lt; omega)).trans (heap_at wr (.cells #[.int .i64 x.f0, .slice A2 x.f1.length c2] 38) wr.heap.size rfl); have z0 := Joins.cell_of_block hb2 0; have z1 := Joins.cell_of_block hb2 1; simp only [List.getElem?_toArray, List.getElem?_cons_zero, List.getElem?_cons_succ] at z0 z1; replace hb2 := Aside0.mk hb2; replace hM2 := Aside0.mk hM2))
              have hB2 := (hB.alloc hB.size (.cells #[.int .i64 x.f0, .slice A2 x.f1.length c2] 38)).grown hg2 (by have := hB.size; rw [World.size_alloc]; omega) (fun k hk => by cases hk; exact Nat.le_refl _)
              (try rw [Exit.noGoto_ret])
              go_ret2
              exact ⟨rfl, hB2⟩
          · have k1 : decide (65535 < x.f0) = false := decide_eq_false g1
            by_cases g2 : 65535 < (x.f1.length : Int)
            · have k2 : decide (65535 < (x.f1.length : Int)) = true := decide_eq_true g2
              simp only [chk, k0, k1, k2, Bool.true_or, Bool.or_true, if_true, Prod.mk.injEq] at e
              obtain ⟨rfl, rfl⟩ := e
              cases hs : seen.contains x.f0 <;> rw [hs] at hlk <;> simp only [Bool.false_eq_true, if_false, if_true] at hlk
              · go_wp2_with (first
                  | (at_mapUpdate; refine wpList_mapUpdate_is _ rfl _ _ _ 46 rfl 3 3 lawI Try.underlying46 _ _ _ rfl hM5.out (by unfold maxLen; omega) _ _ _ rfl rfl (keyOf_int_mk Try.underlying3 hwf) ?_; intro w2 hM2 hg2; (try go_frame); have hlk2 := look_new hM2 hwf; have hb2 := (hg2.block _ (by rw [World.size_alloc]; omega) (by have := hM5.out.lt; intro e; have := Option.some.inj e; have := hM.lt; omega)).trans (heap_at wr (.cells #[.int .i64 x.f0, .slice A2 x.f1.length c2] 38) wr.heap.size rfl); have z0 := Joins.cell_of_block hb2 0; have z1 := Joins.cell_of_block hb2 1; simp only [List.getElem?_toArray, List.getElem?_cons_zero, List.getElem?_cons_succ] at z0 z1; replace hb2 := Aside0.mk hb2; replace hM2 := Aside0.mk hM2))
                have hB2 := (hB.alloc hB.size (.cells #[.int .i64 x.f0, .slice A2 x.f1.length c2] 38)).grown hg2 (by have := hB.size; rw [World.size_alloc]; omega) (fun k hk => by cases hk; exact Nat.le_refl _)
                (try rw [Exit.noGoto_ret])
                go_ret2
                exact ⟨rfl, hB2⟩
              · go_wp2_with (first
                  | (at_mapUpdate; refine wpList_mapUpdate_is _ rfl _ _ _ 46 rfl 3 3 lawI Try.underlying46 _ _ _ rfl hM5.out (by unfold maxLen; omega) _ _ _ rfl rfl (keyOf_int_mk Try.underlying3 hwf) ?_; intro w2 hM2 hg2; (try go_frame); have hlk2 := look_new hM2 hwf; have hb2 := (hg2.block _ (by rw [World.size_alloc]; omega) (by have := hM5.out.lt; intro e; have := Option.some.inj e; have := hM.lt; omega)).trans (heap_at wr (.cells #[.int .i64 x.f0, .slice A2 x.f1.length c2] 38) wr.heap.size rfl); have z0 := Joins.cell_of_block hb2 0; have z1 := Joins.cell_of_block hb2 1; simp only [List.getElem?_toArray, List.getElem?_cons_zero, List.getElem?_cons_succ] at z0 z1; replace hb2 := Aside0.mk hb2; replace hM2 := Aside0.mk hM2))
                have hB2 := (hB.alloc hB.size (.cells #[.int .i64 x.f0, .slice A2 x.f1.length c2] 38)).grown hg2 (by have := hB.size; rw [World.size_alloc]; omega) (fun k hk => by cases hk; exact Nat.le_refl _)
                (try rw [Exit.noGoto_ret])
                go_ret2
                exact ⟨rfl, hB2⟩
            · have k2 : decide (65535 < (x.f1.length : Int)) = false := decide_eq_false g2
              cases hs : seen.contains x.f0 <;> rw [hs] at hlk <;> simp only [Bool.false_eq_true, if_false, if_true] at hlk
              · cases hmay : mayB a0 x.f0
                · rw [hmay] at hm
                  simp only [chk, k0, k1, k2, hs, hmay, Bool.or_self, Bool.false_eq_true, if_false, if_true, Prod.mk.injEq] at e
                  obtain ⟨rfl, rfl⟩ := e
                  go_wp2_with (first
                    | (at_mapUpdate; refine wpList_mapUpdate_is _ rfl _ _ _ 46 rfl 3 3 lawI Try.underlying46 _ _ _ rfl hM5.out (by unfold maxLen; omega) _ _ _ rfl rfl (keyOf_int_mk Try.underlying3 hwf) ?_; intro w2 hM2 hg2; (try go_frame); have hlk2 := look_new hM2 hwf; have hb2 := (hg2.block _ (by rw [World.size_alloc]; omega) (by have := hM5.out.lt; intro e; have := Option.some.inj e; have := hM.lt; omega)).trans (heap_at wr (.cells #[.int .i64 x.f0, .slice A2 x.f1.length c2] 38) wr.heap.size rfl); have z0 := Joins.cell_of_block hb2 0; have z1 := Joins.cell_of_block hb2 1; simp only [List.getElem?_toArray, List.getElem?_cons_zero, List.getElem?_cons_succ] at z0 z1; replace hb2 := Aside0.mk hb2; replace hM2 := Aside0.mk hM2)
                    | (go_at_call 16; refine (legal_May.calls a0 x.f0 _ _ hm.out).mono ?_; rintro e w4 ⟨rfl, hb4⟩; have hb3 := (hb4.block _ (Array.getElem?_eq_some_iff.1 hb2.out).1).trans hb2.out; have x0 := Joins.cell_of_block hb3 0; have x1 := Joins.cell_of_block hb3 1; simp only [List.getElem?_toArray, List.getElem?_cons_zero, List.getElem?_cons_succ] at x0 x1; replace hb3 := Aside0.mk hb3))
                  have hB2 := (hB.alloc hB.size (.cells #[.int .i64 x.f0, .slice A2 x.f1.length c2] 38)).grown hg2 (by have := hB.size; rw [World.size_alloc]; omega) (fun k hk => by cases hk; exact Nat.le_refl _)
                  (try rw [Exit.noGoto_ret])
                  go_ret2
                  exact ⟨rfl, hB2.trans (hb4.mono (by have := hB2.size; omega))⟩
                · rw [hmay] at hm
                  simp only [chk, k0, k1, k2, hs, hmay, Bool.or_self, Bool.false_eq_true, Bool.true_eq_false, if_false, if_true] at e
                  by_cases q1 : x.f0 = 41
                  · have v1 : (x.f0 == 41) = true := by simpa using q1
                    replace q1 := Aside0.mk q1
                    by_cases q2 : a0 = 1
                    · have v2 : (a0 == 1) = true := by simpa using q2
                      replace q2 := Aside0.mk q2
                      by_cases q3 : j + 1 < l1.length
                      · have q4 : (j : Int) < (l1.length : Int) - 1 := by omega
                        have q5 : l1.drop (j + 1) ≠ [] := fun h => by have := congrArg List.length h; simp at this; omega
                        rw [if_pos ⟨q1.out, q2.out, q5⟩] at e
                        simp only [Prod.mk.injEq] at e
                        obtain ⟨rfl, rfl⟩ := e
                        go_wp2_with (first
                          | (at_mapUpdate; refine wpList_mapUpdate_is _ rfl _ _ _ 46 rfl 3 3 lawI Try.underlying46 _ _ _ rfl hM5.out (by unfold maxLen; omega) _ _ _ rfl rfl (keyOf_int_mk Try.underlying3 hwf) ?_; intro w2 hM2 hg2; (try go_frame); have hlk2 := look_new hM2 hwf; have hb2 := (hg2.block _ (by rw [World.size_alloc]; omega) (by have := hM5.out.lt; intro e; have := Option.some.inj e; have := hM.lt; omega)).trans (heap_at wr (.cells #[.int .i64 x.f0, .slice A2 x.f1.length c2] 38) wr.heap.size rfl); have z0 := Joins.cell_of_block hb2 0; have z1 := Joins.cell_of_block hb2 1; simp only [List.getElem?_toArray, List.getElem?_cons_zero, List.getElem?_cons_succ] at z0 z1; replace hb2 := Aside0.mk hb2; replace hM2 := Aside0.mk hM2)
                          | (go_at_call 16; refine (legal_May.calls a0 x.f0 _ _ hm.out).mono ?_; rintro e w4 ⟨rfl, hb4⟩; have hb3 := (hb4.block _ (Array.getElem?_eq_some_iff.1 hb2.out).1).trans hb2.out; have x0 := Joins.cell_of_block hb3 0; have x1 := Joins.cell_of_block hb3 1; simp only [List.getElem?_toArray, List.getElem?_cons_zero, List.getElem?_cons_succ] at x0 x1; replace hb3 := Aside0.mk hb3))
                        have hB2 := (hB.alloc hB.size (.cells #[.int .i64 x.f0, .slice A2 x.f1.length c2] 38)).grown hg2 (by have := hB.size; rw [World.size_alloc]; omega) (fun k hk => by cases hk; exact Nat.le_refl _)
                        (try rw [Exit.noGoto_ret])
                        go_ret2
                        exact ⟨rfl, hB2.trans (hb4.mono (by have := hB2.size; omega))⟩
                      · have q4 : ¬ (j : Int) < (l1.length : Int) - 1 := by omega
                        have q5 : l1.drop (j + 1) = [] := List.drop_eq_nil_of_le (by omega)
                        have hnext := hchk.trans (by simp only [chk, k0, k1, k2, hs, hmay, Bool.or_self, Bool.false_eq_true, Bool.true_eq_false, if_false]; rw [if_neg (fun h => h.2.2 q5)] : _ = chk a0 (x.f0 :: seen) (j + 1) (l1.drop (j + 1)))
                        clear e
                        go_wp2_with (first
                          | (at_mapUpdate; refine wpList_mapUpdate_is _ rfl _ _ _ 46 rfl 3 3 lawI Try.underlying46 _ _ _ rfl hM5.out (by unfold maxLen; omega) _ _ _ rfl rfl (keyOf_int_mk Try.underlying3 hwf) ?_; intro w2 hM2 hg2; (try go_frame); have hlk2 := look_new hM2 hwf; have hb2 := (hg2.block _ (by rw [World.size_alloc]; omega) (by have := hM5.out.lt; intro e; have := Option.some.inj e; have := hM.lt; omega)).trans (heap_at wr (.cells #[.int .i64 x.f0, .slice A2 x.f1.length c2] 38) wr.heap.size rfl); have z0 := Joins.cell_of_block hb2 0; have z1 := Joins.cell_of_block hb2 1; simp only [List.getElem?_toArray, List.getElem?_cons_zero, List.getElem?_cons_succ] at z0 z1; replace hb2 := Aside0.mk hb2; replace hM2 := Aside0.mk hM2)
                          | (go_at_call 16; refine (legal_May.calls a0 x.f0 _ _ hm.out).mono ?_; rintro e w4 ⟨rfl, hb4⟩; have hb3 := (hb4.block _ (Array.getElem?_eq_some_iff.1 hb2.out).1).trans hb2.out; have x0 := Joins.cell_of_block hb3 0; have x1 := Joins.cell_of_block hb3 1; simp only [List.getElem?_toArray, List.getElem?_cons_zero, List.getElem?_cons_succ] at x0 x1; replace hb3 := Aside0.mk hb3))
                        have hB2 := (hB.alloc hB.size (.cells #[.int .i64 x.f0, .slice A2 x.f1.length c2] 38)).grown hg2 (by have := hB.size; rw [World.size_alloc]; omega) (fun k hk => by cases hk; exact Nat.le_refl _)
                        go_roundw
                        case rel =>
                          refine ⟨j + 1, x.f0 :: seen, rfl, rfl, by simp, by omega, hnext, ?_, hB2.trans (hb4.mono (by have := hB2.size; omega))⟩
                          exact (hM2.out.below hb4 (hM2.out.lt)).congr (seen_add seen x.f0)
                        case measure => simp [intOf]; omega
                    · have v2 : (a0 == 1) = false := by simpa using q2
                      have hnext := hchk.trans (by simp only [chk, k0, k1, k2, hs, hmay, Bool.or_self, Bool.false_eq_true, Bool.true_eq_false, if_false]; rw [if_neg (fun h => q2 h.2.1)] : _ = chk a0 (x.f0 :: seen) (j + 1) (l1.drop (j + 1)))
                      clear e
                      go_wp2_with (first
                        | (at_mapUpdate; refine wpList_mapUpdate_is _ rfl _ _ _ 46 rfl 3 3 lawI Try.underlying46 _ _ _ rfl hM5.out (by unfold maxLen; omega) _ _ _ rfl rfl (keyOf_int_mk Try.underlying3 hwf) ?_; intro w2 hM2 hg2; (try go_frame); have hlk2 := look_new hM2 hwf; have hb2 := (hg2.block _ (by rw [World.size_alloc]; omega) (by have := hM5.out.lt; intro e; have := Option.some.inj e; have := hM.lt; omega)).trans (heap_at wr (.cells #[.int .i64 x.f0, .slice A2 x.f1.length c2] 38) wr.heap.size rfl); have z0 := Joins.cell_of_block hb2 0; have z1 := Joins.cell_of_block hb2 1; simp only [List.getElem?_toArray, List.getElem?_cons_zero, List.getElem?_cons_succ] at z0 z1; replace hb2 := Aside0.mk hb2; replace hM2 := Aside0.mk hM2)
                        | (go_at_call 16; refine (legal_May.calls a0 x.f0 _ _ hm.out).mono ?_; rintro e w4 ⟨rfl, hb4⟩; have hb3 := (hb4.block _ (Array.getElem?_eq_some_iff.1 hb2.out).1).trans hb2.out; have x0 := Joins.cell_of_block hb3 0; have x1 := Joins.cell_of_block hb3 1; simp only [List.getElem?_toArray, List.getElem?_cons_zero, List.getElem?_cons_succ] at x0 x1; replace hb3 := Aside0.mk hb3))
                      have hB2 := (hB.alloc hB.size (.cells #[.int .i64 x.f0, .slice A2 x.f1.length c2] 38)).grown hg2 (by have := hB.size; rw [World.size_alloc]; omega) (fun k hk => by cases hk; exact Nat.le_refl _)
                      go_roundw
                      case rel =>
                        refine ⟨j + 1, x.f0 :: seen, rfl, rfl, by simp, by omega, hnext, ?_, hB2.trans (hb4.mono (by have := hB2.size; omega))⟩
                        exact (hM2.out.below hb4 (hM2.out.lt)).congr (seen_add seen x.f0)
                      case measure => simp [intOf]; omega
                  · have v1 : (x.f0 == 41) = false := by simpa using q1
                    have hnext := hchk.trans (by simp only [chk, k0, k1, k2, hs, hmay, Bool.or_self, Bool.false_eq_true, Bool.true_eq_false, if_false]; rw [if_neg (fun h => q1 h.1)] : _ = chk a0 (x.f0 :: seen) (j + 1) (l1.drop (j + 1)))
                    clear e
                    go_wp2_with (first
                      | (at_mapUpdate; refine wpList_mapUpdate_is _ rfl _ _ _ 46 rfl 3 3 lawI Try.underlying46 _ _ _ rfl hM5.out (by unfold maxLen; omega) _ _ _ rfl rfl (keyOf_int_mk Try.underlying3 hwf) ?_; intro w2 hM2 hg2; (try go_frame); have hlk2 := look_new hM2 hwf; have hb2 := (hg2.block _ (by rw [World.size_alloc]; omega) (by have := hM5.out.lt; intro e; have := Option.some.inj e; have := hM.lt; omega)).trans (heap_at wr (.cells #[.int .i64 x.f0, .slice A2 x.f1.length c2] 38) wr.heap.size rfl); have z0 := Joins.cell_of_block hb2 0; have z1 := Joins.cell_of_block hb2 1; simp only [List.getElem?_toArray, List.getElem?_cons_zero, List.getElem?_cons_succ] at z0 z1; replace hb2 := Aside0.mk hb2; replace hM2 := Aside0.mk hM2)
                      | (go_at_call 16; refine (legal_May.calls a0 x.f0 _ _ hm.out).mono ?_; rintro e w4 ⟨rfl, hb4⟩; have hb3 := (hb4.block _ (Array.getElem?_eq_some_iff.1 hb2.out).1).trans hb2.out; have x0 := Joins.cell_of_block hb3 0; have x1 := Joins.cell_of_block hb3 1; simp only [List.getElem?_toArray, List.getElem?_cons_zero, List.getElem?_cons_succ] at x0 x1; replace hb3 := Aside0.mk hb3))
                    have hB2 := (hB.alloc hB.size (.cells #[.int .i64 x.f0, .slice A2 x.f1.length c2] 38)).grown hg2 (by have := hB.size; rw [World.size_alloc]; omega) (fun k hk => by cases hk; exact Nat.le_refl _)
                    go_roundw
                    case rel =>
                      refine ⟨j + 1, x.f0 :: seen, rfl, rfl, by simp, by omega, hnext, ?_, hB2.trans (hb4.mono (by have := hB2.size; omega))⟩
                      exact (hM2.out.below hb4 (hM2.out.lt)).congr (seen_add seen x.f0)
                    case measure => simp [intOf]; omega
              · simp only [chk, k0, k1, k2, hs, Bool.or_self, Bool.false_eq_true, if_false, if_true, Prod.mk.injEq] at e
                obtain ⟨rfl, rfl⟩ := e
                go_wp2_with (first
                  | (at_mapUpdate; refine wpList_mapUpdate_is _ rfl _ _ _ 46 rfl 3 3 lawI Try.underlying46 _ _ _ rfl hM5.out (by unfold maxLen; omega) _ _ _ rfl rfl (keyOf_int_mk Try.underlying3 hwf) ?_; intro w2 hM2 hg2; (try go_frame); have hlk2 := look_new hM2 hwf; have hb2 := (hg2.block _ (by rw [World.size_alloc]; omega) (by have := hM5.out.lt; intro e; have := Option.some.inj e; have := hM.lt; omega)).trans (heap_at wr (.cells #[.int .i64 x.f0, .slice A2 x.f1.length c2] 38) wr.heap.size rfl); have z0 := Joins.cell_of_block hb2 0; have z1 := Joins.cell_of_block hb2 1; simp only [List.getElem?_toArray, List.getElem?_cons_zero, List.getElem?_cons_succ] at z0 z1; replace hb2 := Aside0.mk hb2; replace hM2 := Aside0.mk hM2))
                have hB2 := (hB.alloc hB.size (.cells #[.int .i64 x.f0, .slice A2 x.f1.length c2] 38)).grown hg2 (by have := hB.size; rw [World.size_alloc]; omega) (fun k hk => by cases hk; exact Nat.le_refl _)
                (try rw [Exit.noGoto_ret])
                go_ret2
                exact ⟨rfl, hB2⟩
      · obtain rfl : j = l1.length := by omega
        rw [List.drop_length] at hchk
        have hmx := mixed
        have e := h'.trans hchk
        simp only [chk, Prod.mk.injEq] at e
        obtain ⟨rfl, rfl⟩ := e
        go_wp2
        (try rw [Exit.noGoto_ret])
        go_ret2
        exact ⟨rfl, hB⟩
  · rw [if_neg hb] at h
    have hb' : placeB a0 = false := Bool.eq_false_iff.2 hb
    rw [hb'] at hpl
    simp only [Option.some.injEq, Prod.mk.injEq] at h
    obtain ⟨rfl, rfl⟩ := h
    have hpl' := Aside0.mk hpl
    clear hpl
    go_enter Try.func10, Try.ntmps10
    go_wp2
    go_step3
    go_wp2_with (first
      | (go_at_call 14; refine (legal_Place.calls a0 false _ hpl'.out).mono ?_; rintro e w1 ⟨rfl, ⟨nd, rfl⟩⟩))
    (try rw [Exit.noGoto_ret])
    go_ret2
    exact ⟨rfl, pw_below_drewN (Below.refl _ w) nd⟩
end Go.Proofs.Ytpndiobbogelpaa
