-- Printed by a program of this session (wip/gen) out of the translation; contracts by hand stand in other texts.
import Derived.Test.YtjlpgndcomligaaPShapeOwnx0
import Derived.Test.YtjlpgndcomligaaPShapeOwnx1
namespace Go.Proofs.Ytjlpgndcomligaa.PShapeOwn
open Go.RowKit Go.Proofs.YtjlpgndcomligaaW.PrintWords Go.Proofs.YtjlpgndcomligaaW.PrintLast Go.Proofs.YtjlpgndcomligaaW.PrintMore
attribute [local go_sem] max2_int min2_int max_two min_two max_three min_three max_four min_four   -- for this text's walks alone
set_option linter.unusedVariables false
set_option linter.unusedSimpArgs false

/-! ### passepartoutref04_Same: function 10 -/
mutual
def passepartoutref04_Same.j0 : Nat → Bool → Int → Int → Int → Int → Int → List (S24) → Int → Int → Int → Int → Int → List (S24) → Option (Bool)
  | 0, _, _, _, _, _, _, _, _, _, _, _, _, _ => none
  | k + 1, x33, x103000, x103001, x103002, x103003, x103004, x103005, x104000, x104001, x104002, x104003, x104004, x104005 => if x33 = true then (some false) else (if x103000 = 1 then (if x103002 = x104002 then (if x103003 = x104003 then (passepartoutref04_Same.j1 k (x103004 != x104004) x103000 x103001 x103002 x103003 x103004 x103005 x104000 x104001 x104002 x104003 x104004 x104005) else (passepartoutref04_Same.j1 k true x103000 x103001 x103002 x103003 x103004 x103005 x104000 x104001 x104002 x104003 x104004 x104005)) else (passepartoutref04_Same.j1 k true x103000 x103001 x103002 x103003 x103004 x103005 x104000 x104001 x104002 x104003 x104004 x104005)) else (if x103000 = 2 then (if x103002 = x104002 then (if x103003 = x104003 then (passepartoutref04_Same.j1 k (x103004 != x104004) x103000 x103001 x103002 x103003 x103004 x103005 x104000 x104001 x104002 x104003 x104004 x104005) else (passepartoutref04_Same.j1 k true x103000 x103001 x103002 x103003 x103004 x103005 x104000 x104001 x104002 x104003 x104004 x104005)) else (passepartoutref04_Same.j1 k true x103000 x103001 x103002 x103003 x103004 x103005 x104000 x104001 x104002 x104003 x104004 x104005)) else (passepartoutref04_Same.j1 k false x103000 x103001 x103002 x103003 x103004 x103005 x104000 x104001 x104002 x104003 x104004 x104005)))
def passepartoutref04_Same.j1 : Nat → Bool → Int → Int → Int → Int → Int → List (S24) → Int → Int → Int → Int → Int → List (S24) → Option (Bool)
  | 0, _, _, _, _, _, _, _, _, _, _, _, _, _ => none
  | k + 1, x62, x103000, x103001, x103002, x103003, x103004, x103005, x104000, x104001, x104002, x104003, x104004, x104005 => if x62 = true then (some false) else (if x103000 = 4 then (if x103002 = x104002 then (passepartoutref04_Same.j2 k (x103003 != x104003) x103000 x103001 x103002 x103003 x103004 x103005 x104000 x104001 x104002 x104003 x104004 x104005) else (passepartoutref04_Same.j2 k true x103000 x103001 x103002 x103003 x103004 x103005 x104000 x104001 x104002 x104003 x104004 x104005)) else (if x103000 = 5 then (if x103002 = x104002 then (passepartoutref04_Same.j2 k false x103000 x103001 x103002 x103003 x103004 x103005 x104000 x104001 x104002 x104003 x104004 x104005) else (passepartoutref04_Same.j2 k true x103000 x103001 x103002 x103003 x103004 x103005 x104000 x104001 x104002 x104003 x104004 x104005)) else (passepartoutref04_Same.j2 k false x103000 x103001 x103002 x103003 x103004 x103005 x104000 x104001 x104002 x104003 x104004 x104005)))
def passepartoutref04_Same.j2 : Nat → Bool → Int → Int → Int → Int → Int → List (S24) → Int → Int → Int → Int → Int → List (S24) → Option (Bool)
  | 0, _, _, _, _, _, _, _, _, _, _, _, _, _ => none
  | k + 1, x89, x103000, x103001, x103002, x103003, x103004, x103005, x104000, x104001, x104002, x104003, x104004, x104005 => if x89 = true then (some false) else ((passepartoutref04_parts.f x103000 x103001 x103002 x103003 x103004 x103005).bind fun t104 => ((passepartoutref04_parts.f x104000 x104001 x104002 x104003 x104004 x104005).bind fun t107 => (if (t104.length : Int) = (t107.length : Int) then (passepartoutref04_Same.l0 k t104 t107 0) else (some false))))
def passepartoutref04_Same.l0 : Nat → List (S24) → List (S24) → Int → Option (Bool)
  | 0, _, _, _ => none
  | k + 1, x5, x6, x7 => if x7 < (x5.length : Int) then (if 0 ≤ x7 then (if x7 < (x6.length : Int) then ((passepartoutref04_Same.f k ((rd_T24 x5 x7).f0) ((rd_T24 x5 x7).f1) ((rd_T24 x5 x7).f2) ((rd_T24 x5 x7).f3) ((rd_T24 x5 x7).f4) ((rd_T24 x5 x7).f5) ((rd_T24 x6 x7).f0) ((rd_T24 x6 x7).f1) ((rd_T24 x6 x7).f2) ((rd_T24 x6 x7).f3) ((rd_T24 x6 x7).f4) ((rd_T24 x6 x7).f5)).bind fun t112 => (if t112 = true then (passepartoutref04_Same.l0 k x5 x6 (wrap64 (x7 + 1))) else (some false))) else (none)) else (none)) else (some true)
def passepartoutref04_Same.f : Nat → Int → Int → Int → Int → Int → List (S24) → Int → Int → Int → Int → Int → List (S24) → Option (Bool)
  | 0, _, _, _, _, _, _, _, _, _, _, _, _ => none
  | k + 1, a0_0, a0_1, a0_2, a0_3, a0_4, l0_5, a1_0, a1_1, a1_2, a1_3, a1_4, l1_5 => if a0_0 = a1_0 then (if a0_0 = 0 then (passepartoutref04_Same.j0 k (a0_1 != a1_1) a0_0 a0_1 a0_2 a0_3 a0_4 l0_5 a1_0 a1_1 a1_2 a1_3 a1_4 l1_5) else (if a0_0 = 1 then (passepartoutref04_Same.j0 k (a0_1 != a1_1) a0_0 a0_1 a0_2 a0_3 a0_4 l0_5 a1_0 a1_1 a1_2 a1_3 a1_4 l1_5) else (if a0_0 = 2 then (passepartoutref04_Same.j0 k (a0_1 != a1_1) a0_0 a0_1 a0_2 a0_3 a0_4 l0_5 a1_0 a1_1 a1_2 a1_3 a1_4 l1_5) else (passepartoutref04_Same.j0 k false a0_0 a0_1 a0_2 a0_3 a0_4 l0_5 a1_0 a1_1 a1_2 a1_3 a1_4 l1_5)))) else (some false)
end
theorem passepartoutref04_Same.mono_l : ∀ k, (∀ y0 y1 y2 y3 y4 y5 y6 y7 y8 y9 y10 y11, LeO (passepartoutref04_Same.f k y0 y1 y2 y3 y4 y5 y6 y7 y8 y9 y10 y11) (passepartoutref04_Same.f (k + 1) y0 y1 y2 y3 y4 y5 y6 y7 y8 y9 y10 y11)) ∧ (∀ y0 y1 y2 y3 y4 y5 y6 y7 y8 y9 y10 y11 y12, LeO (passepartoutref04_Same.j0 k y0 y1 y2 y3 y4 y5 y6 y7 y8 y9 y10 y11 y12) (passepartoutref04_Same.j0 (k + 1) y0 y1 y2 y3 y4 y5 y6 y7 y8 y9 y10 y11 y12)) ∧ (∀ y0 y1 y2 y3 y4 y5 y6 y7 y8 y9 y10 y11 y12, LeO (passepartoutref04_Same.j1 k y0 y1 y2 y3 y4 y5 y6 y7 y8 y9 y10 y11 y12) (passepartoutref04_Same.j1 (k + 1) y0 y1 y2 y3 y4 y5 y6 y7 y8 y9 y10 y11 y12)) ∧ (∀ y0 y1 y2 y3 y4 y5 y6 y7 y8 y9 y10 y11 y12, LeO (passepartoutref04_Same.j2 k y0 y1 y2 y3 y4 y5 y6 y7 y8 y9 y10 y11 y12) (passepartoutref04_Same.j2 (k + 1) y0 y1 y2 y3 y4 y5 y6 y7 y8 y9 y10 y11 y12)) ∧ (∀ y0 y1 y2, LeO (passepartoutref04_Same.l0 k y0 y1 y2) (passepartoutref04_Same.l0 (k + 1) y0 y1 y2))
  | 0 => ⟨fun _ _ _ _ _ _ _ _ _ _ _ _ r h => by simp [passepartoutref04_Same.f] at h, fun _ _ _ _ _ _ _ _ _ _ _ _ _ r h => by simp [passepartoutref04_Same.j0] at h, fun _ _ _ _ _ _ _ _ _ _ _ _ _ r h => by simp [passepartoutref04_Same.j1] at h, fun _ _ _ _ _ _ _ _ _ _ _ _ _ r h => by simp [passepartoutref04_Same.j2] at h, fun _ _ _ r h => by simp [passepartoutref04_Same.l0] at h⟩
  | k + 1 => by
    obtain ⟨ih0, ih1, ih2, ih3, ih4⟩ := passepartoutref04_Same.mono_l k
    refine ⟨?_, ?_, ?_, ?_, ?_⟩
    · intro y0 y1 y2 y3 y4 y5 y6 y7 y8 y9 y10 y11
      unfold passepartoutref04_Same.f
      repeat' first
      | (with_reducible exact ih0 _ _ _ _ _ _ _ _ _ _ _ _)
      | (with_reducible exact ih1 _ _ _ _ _ _ _ _ _ _ _ _ _)
      | (with_reducible exact ih2 _ _ _ _ _ _ _ _ _ _ _ _ _)
      | (with_reducible exact ih3 _ _ _ _ _ _ _ _ _ _ _ _ _)
      | (with_reducible exact ih4 _ _ _)
      | (with_reducible exact LeO.refl _)
      | (with_reducible exact LeO.none _)
      | (with_reducible refine LeO.ite ?_ ?_)
      | (with_reducible refine LeO.bind ?_ (fun _ => ?_))
      | exact ih0 _ _ _ _ _ _ _ _ _ _ _ _
      | exact ih1 _ _ _ _ _ _ _ _ _ _ _ _ _
      | exact ih2 _ _ _ _ _ _ _ _ _ _ _ _ _
      | exact ih3 _ _ _ _ _ _ _ _ _ _ _ _ _
      | exact ih4 _ _ _
      | exact LeO.none _
      | refine LeO.ite ?_ ?_
      | refine LeO.bind ?_ (fun _ => ?_)
    · intro y0 y1 y2 y3 y4 y5 y6 y7 y8 y9 y10 y11 y12
      unfold passepartoutref04_Same.j0
      repeat' first
      | (with_reducible exact ih0 _ _ _ _ _ _ _ _ _ _ _ _)
      | (with_reducible exact ih1 _ _ _ _ _ _ _ _ _ _ _ _ _)
      | (with_reducible exact ih2 _ _ _ _ _ _ _ _ _ _ _ _ _)
      | (with_reducible exact ih3 _ _ _ _ _ _ _ _ _ _ _ _ _)
      | (with_reducible exact ih4 _ _ _)
      | (with_reducible exact LeO.refl _)
      | (with_reducible exact LeO.none _)
      | (with_reducible refine LeO.ite ?_ ?_)
      | (with_reducible refine LeO.bind ?_ (fun _ => ?_))
      | exact ih0 _ _ _ _ _ _ _ _ _ _ _ _
      | exact ih1 _ _ _ _ _ _ _ _ _ _ _ _ _
      | exact ih2 _ _ _ _ _ _ _ _ _ _ _ _ _
      | exact ih3 _ _ _ _ _ _ _ _ _ _ _ _ _
      | exact ih4 _ _ _
      | exact LeO.none _
      | refine LeO.ite ?_ ?_
      | refine LeO.bind ?_ (fun _ => ?_)
    · intro y0 y1 y2 y3 y4 y5 y6 y7 y8 y9 y10 y11 y12
      unfold passepartoutref04_Same.j1
      repeat' first
      | (with_reducible exact ih0 _ _ _ _ _ _ _ _ _ _ _ _)
      | (with_reducible exact ih1 _ _ _ _ _ _ _ _ _ _ _ _ _)
      | (with_reducible exact ih2 _ _ _ _ _ _ _ _ _ _ _ _ _)
      | (with_reducible exact ih3 _ _ _ _ _ _ _ _ _ _ _ _ _)
      | (with_reducible exact ih4 _ _ _)
      | (with_reducible exact LeO.refl _)
      | (with_reducible exact LeO.none _)
      | (with_reducible refine LeO.ite ?_ ?_)
      | (with_reducible refine LeO.bind ?_ (fun _ => ?_))
      | exact ih0 _ _ _ _ _ _ _ _ _ _ _ _
      | exact ih1 _ _ _ _ _ _ _ _ _ _ _ _ _
      | exact ih2 _ _ _ _ _ _ _ _ _ _ _ _ _
      | exact ih3 _ _ _ _ _ _ _ _ _ _ _ _ _
      | exact ih4 _ _ _
      | exact LeO.none _
      | refine LeO.ite ?_ ?_
      | refine LeO.bind ?_ (fun _ => ?_)
    · intro y0 y1 y2 y3 y4 y5 y6 y7 y8 y9 y10 y11 y12
      unfold passepartoutref04_Same.j2
      repeat' first
      | (with_reducible exact ih0 _ _ _ _ _ _ _ _ _ _ _ _)
      | (with_reducible exact ih1 _ _ _ _ _ _ _ _ _ _ _ _ _)
      | (with_reducible exact ih2 _ _ _ _ _ _ _ _ _ _ _ _ _)
      | (with_reducible exact ih3 _ _ _ _ _ _ _ _ _ _ _ _ _)
      | (with_reducible exact ih4 _ _ _)
      | (with_reducible exact LeO.refl _)
      | (with_reducible exact LeO.none _)
      | (with_reducible refine LeO.ite ?_ ?_)
      | (with_reducible refine LeO.bind ?_ (fun _ => ?_))
      | exact ih0 _ _ _ _ _ _ _ _ _ _ _ _
      | exact ih1 _ _ _ _ _ _ _ _ _ _ _ _ _
      | exact ih2 _ _ _ _ _ _ _ _ _ _ _ _ _
      | exact ih3 _ _ _ _ _ _ _ _ _ _ _ _ _
      | exact ih4 _ _ _
      | exact LeO.none _
      | refine LeO.ite ?_ ?_
      | refine LeO.bind ?_ (fun _ => ?_)
    · intro y0 y1 y2
      unfold passepartoutref04_Same.l0
      repeat' first
      | (with_reducible exact ih0 _ _ _ _ _ _ _ _ _ _ _ _)
      | (with_reducible exact ih1 _ _ _ _ _ _ _ _ _ _ _ _ _)
      | (with_reducible exact ih2 _ _ _ _ _ _ _ _ _ _ _ _ _)
      | (with_reducible exact ih3 _ _ _ _ _ _ _ _ _ _ _ _ _)
      | (with_reducible exact ih4 _ _ _)
      | (with_reducible exact LeO.refl _)
      | (with_reducible exact LeO.none _)
      | (with_reducible refine LeO.ite ?_ ?_)
      | (with_reducible refine LeO.bind ?_ (fun _ => ?_))
      | exact ih0 _ _ _ _ _ _ _ _ _ _ _ _
      | exact ih1 _ _ _ _ _ _ _ _ _ _ _ _ _
      | exact ih2 _ _ _ _ _ _ _ _ _ _ _ _ _
      | exact ih3 _ _ _ _ _ _ _ _ _ _ _ _ _
      | exact ih4 _ _ _
      | exact LeO.none _
      | refine LeO.ite ?_ ?_
      | refine LeO.bind ?_ (fun _ => ?_)
theorem passepartoutref04_Same.mono : ∀ a0 a1 a2 a3 a4 a5 a6 a7 a8 a9 a10 a11 k, LeO (passepartoutref04_Same.f k a0 a1 a2 a3 a4 a5 a6 a7 a8 a9 a10 a11) (passepartoutref04_Same.f (k + 1) a0 a1 a2 a3 a4 a5 a6 a7 a8 a9 a10 a11) := by
  intro a0 a1 a2 a3 a4 a5 a6 a7 a8 a9 a10 a11 k
  obtain ⟨ih0, ih1, ih2, ih3, ih4⟩ := passepartoutref04_Same.mono_l k
  exact ih0 a0 a1 a2 a3 a4 a5 a6 a7 a8 a9 a10 a11
def passepartoutref04_Same.T16 : Bool × List (List Nat × List Nat) := (true, [([], []), ([], []), ([0, 1], [0, 1]), ([2], [2]), ([], []), ([], []), ([4, 5], [4, 5]), ([6], [6]), ([3, 7], [3, 7]), ([8, 8, 0, 1, 2, 3, 4, 5, 6, 7, 8], [8])])
def passepartoutref04_Same.B16 : List Nat := [0, 0, 3, 7, 0, 0, 48, 112, 255, 511]
theorem passepartoutref04_Same.tab16 : rtab .any (opsOf Try.f10 16) = passepartoutref04_Same.T16 := by kernel_rfl
theorem passepartoutref04_Same.bits16 : waitsOk passepartoutref04_Same.T16.2 passepartoutref04_Same.B16 = true := by kernel_rfl
set_option maxHeartbeats 8000000 in
set_option maxRecDepth 100000 in
theorem passepartoutref04_Same.calls (k : Nat) : ∀ (a0_0 : Int) (a0_1 : Int) (a0_2 : Int) (a0_3 : Int) (a0_4 : Int) (A0_5 : Option Addr) (c0_5 : Nat) (l0_5 : List (S24)) (a1_0 : Int) (a1_1 : Int) (a1_2 : Int) (a1_3 : Int) (a1_4 : Int) (A1_5 : Option Addr) (c1_5 : Nat) (l1_5 : List (S24)) (r : Bool) (w : World) (hr0_5 : Kd.C k24 w A0_5 l0_5.length l0_5) (hc0_5 : l0_5.length ≤ c0_5) (hr1_5 : Kd.C k24 w A1_5 l1_5.length l1_5) (hc1_5 : l1_5.length ≤ c1_5) (h : passepartoutref04_Same.f k a0_0 a0_1 a0_2 a0_3 a0_4 l0_5 a1_0 a1_1 a1_2 a1_3 a1_4 l1_5 = some r),
    Calls Try.prog 10 #[.agg #[.int .i64 a0_0, .int .i64 a0_1, .int .i64 a0_2, .int .i64 a0_3, .int .i64 a0_4, .slice A0_5 l0_5.length c0_5], .agg #[.int .i64 a1_0, .int .i64 a1_1, .int .i64 a1_2, .int .i64 a1_3, .int .i64 a1_4, .slice A1_5 l1_5.length c1_5]] w fun e w' => e = .returned (.bool r) ∧ Below w.heap.size w w' := by
  induction k using Nat.strongRecOn with
  | _ k ih =>
  intro a0_0 a0_1 a0_2 a0_3 a0_4 A0_5 c0_5 l0_5 a1_0 a1_1 a1_2 a1_3 a1_4 A1_5 c1_5 l1_5 r w hr0_5 hc0_5 hr1_5 hc1_5 h
  cases k with
  | zero => exact absurd h (by simp [passepartoutref04_Same.f])
  | succ k =>
  simp only [passepartoutref04_Same.f] at h
  have hu24 := Try.underlying24
  have HR0_5 := Aside0.mk hr0_5
  have HC0_5 := Aside0.mk hc0_5
  clear hr0_5 hc0_5
  have HR1_5 := Aside0.mk hr1_5
  have HC1_5 := Aside0.mk hc1_5
  clear hr1_5 hc1_5
  have HB := Aside0.mk (Below.refl w.heap.size w)
  have H : (if a0_0 = a1_0 then (if a0_0 = 0 then (passepartoutref04_Same.j0 k (a0_1 != a1_1) a0_0 a0_1 a0_2 a0_3 a0_4 l0_5 a1_0 a1_1 a1_2 a1_3 a1_4 l1_5) else (if a0_0 = 1 then (passepartoutref04_Same.j0 k (a0_1 != a1_1) a0_0 a0_1 a0_2 a0_3 a0_4 l0_5 a1_0 a1_1 a1_2 a1_3 a1_4 l1_5) else (if a0_0 = 2 then (passepartoutref04_Same.j0 k (a0_1 != a1_1) a0_0 a0_1 a0_2 a0_3 a0_4 l0_5 a1_0 a1_1 a1_2 a1_3 a1_4 l1_5) else (passepartoutref04_Same.j0 k false a0_0 a0_1 a0_2 a0_3 a0_4 l0_5 a1_0 a1_1 a1_2 a1_3 a1_4 l1_5)))) else (some false)) = some r := h
  clear h
  by_cases c3 : a0_0 = a1_0
  · rw [if_pos c3] at H
    have c3b0 : (a0_0 == a1_0) = true := beq_iff_eq.mpr c3
    have c3b1 : (a0_0 != a1_0) = false := bne_eq_false_iff_eq.mpr c3
    clear c3
    have HC4 := Aside0.mk H
    clear H
    go_enter Try.func10, Try.ntmps10
    go_upto_region 3 with (first | ((with_reducible refine gate_dst (N := 2) rfl ?_); refine box_event ?hg (N := 2) ?hd (cs := #[.int .i64 a0_0, .int .i64 a0_1, .int .i64 a0_2, .int .i64 a0_3, .int .i64 a0_4, .slice A0_5 l0_5.length c0_5]) (t := 24) ?hr ?_; (case hd => rfl); (case hg => rfl); (case hr => first | (go_simp; done) | (go_simp; rfl)); intro gb102 hg w5 hbox hb; have n0_ := Aside0.mk (below_step (by repeat (first | (with_reducible first | exact HB.out | apply below_alloc | apply pw_below_drewN | apply below_drew1) | exact HB.out)) hb); have n1_ := Aside0.mk (hbox); have n2_ := Aside0.mk ((by rw [hg]; exact (below_size (by repeat (first | (with_reducible first | exact HB.out | apply below_alloc | apply pw_below_drewN | apply below_drew1) | exact HB.out))) : w.heap.size ≤ gb102)); have n3_ := Aside0.mk ((by rw [hg]; exact (below_size (by repeat (first | (with_reducible first | exact HB.out | apply below_alloc | apply pw_below_drewN | apply below_drew1) | exact HB.out))) : w.heap.size ≤ gb102)); clear HB; have HB := n0_; have BK102 := n1_; have GW102 := n2_; have GE102 := n3_; clear n0_ n1_ n2_ n3_; clear hb hbox hg) | ((with_reducible refine gate_dst (N := 3) rfl ?_); refine box_event ?hg (N := 3) ?hd (cs := #[.int .i64 a1_0, .int .i64 a1_1, .int .i64 a1_2, .int .i64 a1_3, .int .i64 a1_4, .slice A1_5 l1_5.length c1_5]) (t := 24) ?hr ?_; (case hd => rfl); (case hg => rfl); (case hr => first | (go_simp; done) | (go_simp; rfl)); intro gb103 hg w6 hbox hb; have n0_ := Aside0.mk (blk_below (g := gb102) (o := .cells #[.int .i64 a0_0, .int .i64 a0_1, .int .i64 a0_2, .int .i64 a0_3, .int .i64 a0_4, .slice A0_5 l0_5.length c0_5] 24 (0, 0)) (by (with_reducible repeat (first | refine blk_drewN ?_ _ | refine blk_drew ?_ | refine blk_alloc ?_ _)); exact BK102.out) hb); have n1_ := Aside0.mk (below_step (by repeat (first | (with_reducible first | exact HB.out | apply below_alloc | apply pw_below_drewN | apply below_drew1 | refine below_set ?_ GE102.out) | exact HB.out)) hb); have n2_ := Aside0.mk (hbox); have n3_ := Aside0.mk ((by rw [hg]; exact (below_size (by repeat (first | (with_reducible first | exact HB.out | apply below_alloc | apply pw_below_drewN | apply below_drew1 | refine below_set ?_ GE102.out) | exact HB.out))) : w.heap.size ≤ gb103)); have n4_ := Aside0.mk ((by rw [hg]; exact (below_size (by repeat (first | (with_reducible first | exact HB.out | apply below_alloc | apply pw_below_drewN | apply below_drew1 | refine below_set ?_ GE102.out) | exact HB.out))) : w.heap.size ≤ gb103)); have n5_ := Aside0.mk ((by rw [hg]; exact Nat.ne_of_lt (blk_lt (g := gb102) (o := .cells #[.int .i64 a0_0, .int .i64 a0_1, .int .i64 a0_2, .int .i64 a0_3, .int .i64 a0_4, .slice A0_5 l0_5.length c0_5] 24 (0, 0)) (by (with_reducible repeat (first | refine blk_drewN ?_ _ | refine blk_drew ?_ | refine blk_alloc ?_ _)); exact BK102.out)) : gb102 ≠ gb103)); have n6_ := Aside0.mk ((by rw [hg]; exact Nat.ne_of_gt (blk_lt (g := gb102) (o := .cells #[.int .i64 a0_0, .int .i64 a0_1, .int .i64 a0_2, .int .i64 a0_3, .int .i64 a0_4, .slice A0_5 l0_5.length c0_5] 24 (0, 0)) (by (with_reducible repeat (first | refine blk_drewN ?_ _ | refine blk_drew ?_ | refine blk_alloc ?_ _)); exact BK102.out)) : gb103 ≠ gb102)); clear BK102; clear HB; have BK102 := n0_; have HB := n1_; have BK103 := n2_; have GW103 := n3_; have GE103 := n4_; have NB102_103 := n5_; have NB103_102 := n6_; clear n0_ n1_ n2_ n3_ n4_ n5_ n6_; clear hb hbox hg; have hnb7 := NB102_103.out; have hnc7 := NB103_102.out; have hcz8_0 : w6.cell? ⟨gb102, 0, none⟩ = some (.int .i64 a0_0) := (blk_cell BK102.out 0).trans rfl; have hcz8_1 : w6.cell? ⟨gb102, 1, none⟩ = some (.int .i64 a0_1) := (blk_cell BK102.out 1).trans rfl; have hcz8_2 : w6.cell? ⟨gb102, 2, none⟩ = some (.int .i64 a0_2) := (blk_cell BK102.out 2).trans rfl; have hcz8_3 : w6.cell? ⟨gb102, 3, none⟩ = some (.int .i64 a0_3) := (blk_cell BK102.out 3).trans rfl; have hcz8_4 : w6.cell? ⟨gb102, 4, none⟩ = some (.int .i64 a0_4) := (blk_cell BK102.out 4).trans rfl; have hcz8_5 : w6.cell? ⟨gb102, 5, none⟩ = some (.slice A0_5 l0_5.length c0_5) := (blk_cell BK102.out 5).trans rfl; have hfz8_0 := blk_frozen BK102.out 0; have hfz8_1 := blk_frozen BK102.out 1; have hfz8_2 := blk_frozen BK102.out 2; have hfz8_3 := blk_frozen BK102.out 3; have hfz8_4 := blk_frozen BK102.out 4; have hfz8_5 := blk_frozen BK102.out 5; have hcz9_0 : w6.cell? ⟨gb103, 0, none⟩ = some (.int .i64 a1_0) := (blk_cell BK103.out 0).trans rfl; have hcz9_1 : w6.cell? ⟨gb103, 1, none⟩ = some (.int .i64 a1_1) := (blk_cell BK103.out 1).trans rfl; have hcz9_2 : w6.cell? ⟨gb103, 2, none⟩ = some (.int .i64 a1_2) := (blk_cell BK103.out 2).trans rfl; have hcz9_3 : w6.cell? ⟨gb103, 3, none⟩ = some (.int .i64 a1_3) := (blk_cell BK103.out 3).trans rfl; have hcz9_4 : w6.cell? ⟨gb103, 4, none⟩ = some (.int .i64 a1_4) := (blk_cell BK103.out 4).trans rfl; have hcz9_5 : w6.cell? ⟨gb103, 5, none⟩ = some (.slice A1_5 l1_5.length c1_5) := (blk_cell BK103.out 5).trans rfl; have hfz9_0 := blk_frozen BK103.out 0; have hfz9_1 := blk_frozen BK103.out 1; have hfz9_2 := blk_frozen BK103.out 2; have hfz9_3 := blk_frozen BK103.out 3; have hfz9_4 := blk_frozen BK103.out 4; have hfz9_5 := blk_frozen BK103.out 5))
    (try simp only [Act.put, List.setIfInBounds_toArray, List.set_cons_zero, List.set_cons_succ])
    go_cut [33] (fun v33 wc => ∃ (kq : Nat) (x33_3 : Bool), v33 = .bool x33_3 ∧ Aside0 (passepartoutref04_Same.j0 kq x33_3 a0_0 a0_1 a0_2 a0_3 a0_4 l0_5 a1_0 a1_1 a1_2 a1_3 a1_4 l1_5 = some r) ∧ Aside0 (kq ≤ k) ∧ Aside0 (wc.heap[gb102]? = some (.cells #[.int .i64 a0_0, .int .i64 a0_1, .int .i64 a0_2, .int .i64 a0_3, .int .i64 a0_4, (.slice A0_5 l0_5.length c0_5)] 24 (0, 0))) ∧ Aside0 (wc.heap[gb103]? = some (.cells #[.int .i64 a1_0, .int .i64 a1_1, .int .i64 a1_2, .int .i64 a1_3, .int .i64 a1_4, (.slice A1_5 l1_5.length c1_5)] 24 (0, 0))) ∧ Aside0 (Below w.heap.size w wc))
    case first =>
      have H := HC4.out
      clear HC4
      by_cases c10 : a0_0 = 0
      · rw [if_pos c10] at H
        have c10b0 : (a0_0 == 0) = true := beq_iff_eq.mpr c10
        have c10b1 : (a0_0 != 0) = false := bne_eq_false_iff_eq.mpr c10
        clear c10
        (first | rw [c10b0] | (simp only [i64_w, i32_w]; rw [c10b0]) | skip)
        have H' := Aside0.mk H
        clear H
        have hnb11 := NB102_103.out
        have hnc11 := NB103_102.out
        have hcz12_0 : w6.cell? ⟨gb102, 0, none⟩ = some (.int .i64 a0_0) := (blk_cell BK102.out 0).trans rfl
        have hcz12_1 : w6.cell? ⟨gb102, 1, none⟩ = some (.int .i64 a0_1) := (blk_cell BK102.out 1).trans rfl
        have hcz12_2 : w6.cell? ⟨gb102, 2, none⟩ = some (.int .i64 a0_2) := (blk_cell BK102.out 2).trans rfl
        have hcz12_3 : w6.cell? ⟨gb102, 3, none⟩ = some (.int .i64 a0_3) := (blk_cell BK102.out 3).trans rfl
        have hcz12_4 : w6.cell? ⟨gb102, 4, none⟩ = some (.int .i64 a0_4) := (blk_cell BK102.out 4).trans rfl
        have hcz12_5 : w6.cell? ⟨gb102, 5, none⟩ = some (.slice A0_5 l0_5.length c0_5) := (blk_cell BK102.out 5).trans rfl
        have hfz12_0 := blk_frozen BK102.out 0
        have hfz12_1 := blk_frozen BK102.out 1
        have hfz12_2 := blk_frozen BK102.out 2
        have hfz12_3 := blk_frozen BK102.out 3
        have hfz12_4 := blk_frozen BK102.out 4
        have hfz12_5 := blk_frozen BK102.out 5
        have hcz13_0 : w6.cell? ⟨gb103, 0, none⟩ = some (.int .i64 a1_0) := (blk_cell BK103.out 0).trans rfl
        have hcz13_1 : w6.cell? ⟨gb103, 1, none⟩ = some (.int .i64 a1_1) := (blk_cell BK103.out 1).trans rfl
        have hcz13_2 : w6.cell? ⟨gb103, 2, none⟩ = some (.int .i64 a1_2) := (blk_cell BK103.out 2).trans rfl
        have hcz13_3 : w6.cell? ⟨gb103, 3, none⟩ = some (.int .i64 a1_3) := (blk_cell BK103.out 3).trans rfl
        have hcz13_4 : w6.cell? ⟨gb103, 4, none⟩ = some (.int .i64 a1_4) := (blk_cell BK103.out 4).trans rfl
        have hcz13_5 : w6.cell? ⟨gb103, 5, none⟩ = some (.slice A1_5 l1_5.length c1_5) := (blk_cell BK103.out 5).trans rfl
        have hfz13_0 := blk_frozen BK103.out 0
        have hfz13_1 := blk_frozen BK103.out 1
        have hfz13_2 := blk_frozen BK103.out 2
        have hfz13_3 := blk_frozen BK103.out 3
        have hfz13_4 := blk_frozen BK103.out 4
        have hfz13_5 := blk_frozen BK103.out 5
        go_wp2
        go_meet
        case rel => exact ⟨_, ((a0_1 != a1_1)), (by first | rfl | (simp; done) | (simp [*]; done)), H', ⟨by first | omega | exact Nat.le_refl _⟩, ⟨by (with_reducible repeat (first | refine blk_drewN ?_ _ | refine blk_drew ?_ | refine blk_alloc ?_ _)); exact BK102.out⟩, ⟨by (with_reducible repeat (first | refine blk_drewN ?_ _ | refine blk_drew ?_ | refine blk_alloc ?_ _)); exact BK103.out⟩, ⟨by repeat (first | (with_reducible first | exact HB.out | apply below_alloc | apply pw_below_drewN | apply below_drew1 | refine below_set ?_ GE102.out | refine below_set ?_ GE103.out) | exact HB.out)⟩⟩
      · rw [if_neg c10] at H
        have c10b0 : (a0_0 == 0) = false := beq_eq_false_iff_ne.mpr c10
        have c10b1 : (a0_0 != 0) = true := bne_iff_ne.mpr c10
        (first | rw [c10b0] | (simp only [i64_w, i32_w]; rw [c10b0]) | skip)
        by_cases c14 : a0_0 = 1
        · rw [if_pos c14] at H
          have c14b0 : (a0_0 == 1) = true := beq_iff_eq.mpr c14
          have c14b1 : (a0_0 != 1) = false := bne_eq_false_iff_eq.mpr c14
          clear c14
          have H' := Aside0.mk H
          clear H
          have hnb15 := NB102_103.out
          have hnc15 := NB103_102.out
          have hcz16_0 : w6.cell? ⟨gb102, 0, none⟩ = some (.int .i64 a0_0) := (blk_cell BK102.out 0).trans rfl
          have hcz16_1 : w6.cell? ⟨gb102, 1, none⟩ = some (.int .i64 a0_1) := (blk_cell BK102.out 1).trans rfl
          have hcz16_2 : w6.cell? ⟨gb102, 2, none⟩ = some (.int .i64 a0_2) := (blk_cell BK102.out 2).trans rfl
          have hcz16_3 : w6.cell? ⟨gb102, 3, none⟩ = some (.int .i64 a0_3) := (blk_cell BK102.out 3).trans rfl
          have hcz16_4 : w6.cell? ⟨gb102, 4, none⟩ = some (.int .i64 a0_4) := (blk_cell BK102.out 4).trans rfl
          have hcz16_5 : w6.cell? ⟨gb102, 5, none⟩ = some (.slice A0_5 l0_5.length c0_5) := (blk_cell BK102.out 5).trans rfl
          have hfz16_0 := blk_frozen BK102.out 0
          have hfz16_1 := blk_frozen BK102.out 1
          have hfz16_2 := blk_frozen BK102.out 2
          have hfz16_3 := blk_frozen BK102.out 3
          have hfz16_4 := blk_frozen BK102.out 4
          have hfz16_5 := blk_frozen BK102.out 5
          have hcz17_0 : w6.cell? ⟨gb103, 0, none⟩ = some (.int .i64 a1_0) := (blk_cell BK103.out 0).trans rfl
          have hcz17_1 : w6.cell? ⟨gb103, 1, none⟩ = some (.int .i64 a1_1) := (blk_cell BK103.out 1).trans rfl
          have hcz17_2 : w6.cell? ⟨gb103, 2, none⟩ = some (.int .i64 a1_2) := (blk_cell BK103.out 2).trans rfl
          have hcz17_3 : w6.cell? ⟨gb103, 3, none⟩ = some (.int .i64 a1_3) := (blk_cell BK103.out 3).trans rfl
          have hcz17_4 : w6.cell? ⟨gb103, 4, none⟩ = some (.int .i64 a1_4) := (blk_cell BK103.out 4).trans rfl
          have hcz17_5 : w6.cell? ⟨gb103, 5, none⟩ = some (.slice A1_5 l1_5.length c1_5) := (blk_cell BK103.out 5).trans rfl
          have hfz17_0 := blk_frozen BK103.out 0
          have hfz17_1 := blk_frozen BK103.out 1
          have hfz17_2 := blk_frozen BK103.out 2
          have hfz17_3 := blk_frozen BK103.out 3
          have hfz17_4 := blk_frozen BK103.out 4
          have hfz17_5 := blk_frozen BK103.out 5
          go_wp2
          go_meet
          case rel => exact ⟨_, ((a0_1 != a1_1)), (by first | rfl | (simp; done) | (simp [*]; done)), H', ⟨by first | omega | exact Nat.le_refl _⟩, ⟨by (with_reducible repeat (first | refine blk_drewN ?_ _ | refine blk_drew ?_ | refine blk_alloc ?_ _)); exact BK102.out⟩, ⟨by (with_reducible repeat (first | refine blk_drewN ?_ _ | refine blk_drew ?_ | refine blk_alloc ?_ _)); exact BK103.out⟩, ⟨by repeat (first | (with_reducible first | exact HB.out | apply below_alloc | apply pw_below_drewN | apply below_drew1 | refine below_set ?_ GE102.out | refine below_set ?_ GE103.out) | exact HB.out)⟩⟩
        · rw [if_neg c14] at H
          have c14b0 : (a0_0 == 1) = false := beq_eq_false_iff_ne.mpr c14
          have c14b1 : (a0_0 != 1) = true := bne_iff_ne.mpr c14
          by_cases c18 : a0_0 = 2
          · rw [if_pos c18] at H
            have c18b0 : (a0_0 == 2) = true := beq_iff_eq.mpr c18
            have c18b1 : (a0_0 != 2) = false := bne_eq_false_iff_eq.mpr c18
            clear c18
            have H' := Aside0.mk H
            clear H
            have hnb19 := NB102_103.out
            have hnc19 := NB103_102.out
            have hcz20_0 : w6.cell? ⟨gb102, 0, none⟩ = some (.int .i64 a0_0) := (blk_cell BK102.out 0).trans rfl
            have hcz20_1 : w6.cell? ⟨gb102, 1, none⟩ = some (.int .i64 a0_1) := (blk_cell BK102.out 1).trans rfl
            have hcz20_2 : w6.cell? ⟨gb102, 2, none⟩ = some (.int .i64 a0_2) := (blk_cell BK102.out 2).trans rfl
            have hcz20_3 : w6.cell? ⟨gb102, 3, none⟩ = some (.int .i64 a0_3) := (blk_cell BK102.out 3).trans rfl
            have hcz20_4 : w6.cell? ⟨gb102, 4, none⟩ = some (.int .i64 a0_4) := (blk_cell BK102.out 4).trans rfl
            have hcz20_5 : w6.cell? ⟨gb102, 5, none⟩ = some (.slice A0_5 l0_5.length c0_5) := (blk_cell BK102.out 5).trans rfl
            have hfz20_0 := blk_frozen BK102.out 0
            have hfz20_1 := blk_frozen BK102.out 1
            have hfz20_2 := blk_frozen BK102.out 2
            have hfz20_3 := blk_frozen BK102.out 3
            have hfz20_4 := blk_frozen BK102.out 4
            have hfz20_5 := blk_frozen BK102.out 5
            have hcz21_0 : w6.cell? ⟨gb103, 0, none⟩ = some (.int .i64 a1_0) := (blk_cell BK103.out 0).trans rfl
            have hcz21_1 : w6.cell? ⟨gb103, 1, none⟩ = some (.int .i64 a1_1) := (blk_cell BK103.out 1).trans rfl
            have hcz21_2 : w6.cell? ⟨gb103, 2, none⟩ = some (.int .i64 a1_2) := (blk_cell BK103.out 2).trans rfl
            have hcz21_3 : w6.cell? ⟨gb103, 3, none⟩ = some (.int .i64 a1_3) := (blk_cell BK103.out 3).trans rfl
            have hcz21_4 : w6.cell? ⟨gb103, 4, none⟩ = some (.int .i64 a1_4) := (blk_cell BK103.out 4).trans rfl
            have hcz21_5 : w6.cell? ⟨gb103, 5, none⟩ = some (.slice A1_5 l1_5.length c1_5) := (blk_cell BK103.out 5).trans rfl
            have hfz21_0 := blk_frozen BK103.out 0
            have hfz21_1 := blk_frozen BK103.out 1
            have hfz21_2 := blk_frozen BK103.out 2
            have hfz21_3 := blk_frozen BK103.out 3
            have hfz21_4 := blk_frozen BK103.out 4
            have hfz21_5 := blk_frozen BK103.out 5
            go_wp2
            go_meet
            case rel => exact ⟨_, ((a0_1 != a1_1)), (by first | rfl | (simp; done) | (simp [*]; done)), H', ⟨by first | omega | exact Nat.le_refl _⟩, ⟨by (with_reducible repeat (first | refine blk_drewN ?_ _ | refine blk_drew ?_ | refine blk_alloc ?_ _)); exact BK102.out⟩, ⟨by (with_reducible repeat (first | refine blk_drewN ?_ _ | refine blk_drew ?_ | refine blk_alloc ?_ _)); exact BK103.out⟩, ⟨by repeat (first | (with_reducible first | exact HB.out | apply below_alloc | apply pw_below_drewN | apply below_drew1 | refine below_set ?_ GE102.out | refine below_set ?_ GE103.out) | exact HB.out)⟩⟩
          · rw [if_neg c18] at H
            have c18b0 : (a0_0 == 2) = false := beq_eq_false_iff_ne.mpr c18
            have c18b1 : (a0_0 != 2) = true := bne_iff_ne.mpr c18
            have H' := Aside0.mk H
            clear H
            have hnb22 := NB102_103.out
            have hnc22 := NB103_102.out
            have hcz23_0 : w6.cell? ⟨gb102, 0, none⟩ = some (.int .i64 a0_0) := (blk_cell BK102.out 0).trans rfl
            have hcz23_1 : w6.cell? ⟨gb102, 1, none⟩ = some (.int .i64 a0_1) := (blk_cell BK102.out 1).trans rfl
            have hcz23_2 : w6.cell? ⟨gb102, 2, none⟩ = some (.int .i64 a0_2) := (blk_cell BK102.out 2).trans rfl
            have hcz23_3 : w6.cell? ⟨gb102, 3, none⟩ = some (.int .i64 a0_3) := (blk_cell BK102.out 3).trans rfl
            have hcz23_4 : w6.cell? ⟨gb102, 4, none⟩ = some (.int .i64 a0_4) := (blk_cell BK102.out 4).trans rfl
            have hcz23_5 : w6.cell? ⟨gb102, 5, none⟩ = some (.slice A0_5 l0_5.length c0_5) := (blk_cell BK102.out 5).trans rfl
            have hfz23_0 := blk_frozen BK102.out 0
            have hfz23_1 := blk_frozen BK102.out 1
            have hfz23_2 := blk_frozen BK102.out 2
            have hfz23_3 := blk_frozen BK102.out 3
            have hfz23_4 := blk_frozen BK102.out 4
            have hfz23_5 := blk_frozen BK102.out 5
            go_wp2
            go_meet
            case rel => exact ⟨_, (false), (by first | rfl | (simp; done) | (simp [*]; done)), H', ⟨by first | omega | exact Nat.le_refl _⟩, ⟨by (with_reducible repeat (first | refine blk_drewN ?_ _ | refine blk_drew ?_ | refine blk_alloc ?_ _)); exact BK102.out⟩, ⟨by (with_reducible repeat (first | refine blk_drewN ?_ _ | refine blk_drew ?_ | refine blk_alloc ?_ _)); exact BK103.out⟩, ⟨by repeat (first | (with_reducible first | exact HB.out | apply below_alloc | apply pw_below_drewN | apply below_drew1 | refine below_set ?_ GE102.out | refine below_set ?_ GE103.out) | exact HB.out)⟩⟩
    case rest =>
      clear HC4
      try clear c1
      try clear c2
      try clear p2
      try clear c3
      try clear c3b0
      try clear c3b1
      try clear c7
      try clear c10
      try clear c10b0
      try clear c10b1
      try clear c11
      try clear c14
      try clear c14b0
      try clear c14b1
      try clear c15
      try clear c18
      try clear c18b0
      try clear c18b1
      try clear c19
      try clear c22
      try clear hcz12_0
      try clear hcz12_1
      try clear hcz12_2
      try clear hcz12_3
      try clear hcz12_4
      try clear hcz12_5
      try clear hcz13_0
      try clear hcz13_1
      try clear hcz13_2
      try clear hcz13_3
      try clear hcz13_4
      try clear hcz13_5
      try clear hcz16_0
      try clear hcz16_1
      try clear hcz16_2
      try clear hcz16_3
      try clear hcz16_4
      try clear hcz16_5
      try clear hcz17_0
      try clear hcz17_1
      try clear hcz17_2
      try clear hcz17_3
      try clear hcz17_4
      try clear hcz17_5
      try clear hcz20_0
      try clear hcz20_1
      try clear hcz20_2
      try clear hcz20_3
      try clear hcz20_4
      try clear hcz20_5
      try clear hcz21_0
      try clear hcz21_1
      try clear hcz21_2
      try clear hcz21_3
      try clear hcz21_4
      try clear hcz21_5
      try clear hcz23_0
      try clear hcz23_1
      try clear hcz23_2
      try clear hcz23_3
      try clear hcz23_4
      try clear hcz23_5
      try clear hcz8_0
      try clear hcz8_1
      try clear hcz8_2
      try clear hcz8_3
      try clear hcz8_4
      try clear hcz8_5
      try clear hcz9_0
      try clear hcz9_1
      try clear hcz9_2
      try clear hcz9_3
      try clear hcz9_4
      try clear hcz9_5
      try clear hfz12_0
      try clear hfz12_1
      try clear hfz12_2
      try clear hfz12_3
      try clear hfz12_4
      try clear hfz12_5
      try clear hfz13_0
      try clear hfz13_1
      try clear hfz13_2
      try clear hfz13_3
      try clear hfz13_4
      try clear hfz13_5
      try clear hfz16_0
      try clear hfz16_1
      try clear hfz16_2
      try clear hfz16_3
      try clear hfz16_4
      try clear hfz16_5
      try clear hfz17_0
      try clear hfz17_1
      try clear hfz17_2
      try clear hfz17_3
      try clear hfz17_4
      try clear hfz17_5
      try clear hfz20_0
      try clear hfz20_1
      try clear hfz20_2
      try clear hfz20_3
      try clear hfz20_4
      try clear hfz20_5
      try clear hfz21_0
      try clear hfz21_1
      try clear hfz21_2
      try clear hfz21_3
      try clear hfz21_4
      try clear hfz21_5
      try clear hfz23_0
      try clear hfz23_1
      try clear hfz23_2
      try clear hfz23_3
      try clear hfz23_4
      try clear hfz23_5
      try clear hfz8_0
      try clear hfz8_1
      try clear hfz8_2
      try clear hfz8_3
      try clear hfz8_4
      try clear hfz8_5
      try clear hfz9_0
      try clear hfz9_1
      try clear hfz9_2
      try clear hfz9_3
      try clear hfz9_4
      try clear hfz9_5
      obtain ⟨kq, x33_3, rfl, HA, HJ3, BK102, BK103, HB⟩ := hcut
      cases kq with
      | zero => exact absurd HA.out (by simp [passepartoutref04_Same.j0])
      | succ kj3 =>
        have H := HA.out
        clear HA
        simp only [passepartoutref04_Same.j0] at H
        by_cases c24 : x33_3 = true
        · subst c24
          have H1 : (some false) = some r := by rw [if_pos rfl] at H; exact H
          clear H
          have H := H1
          clear H1
          obtain rfl := Option.some.inj H
          go_wp2
          go_ret
          exact ⟨by first | rfl | (simp [errW_none, errW_some] <;> rfl) | (simp [*, errW_none, errW_some] <;> rfl), by repeat (first | (with_reducible first | exact HB.out | apply below_alloc | apply pw_below_drewN | apply below_drew1 | refine below_set ?_ GE102.out | refine below_set ?_ GE103.out) | exact HB.out)⟩
        · replace c24 := Bool.eq_false_iff.mpr c24
          subst c24
          have H1 : (if a0_0 = 1 then (if a0_2 = a1_2 then (if a0_3 = a1_3 then (passepartoutref04_Same.j1 kj3 (a0_4 != a1_4) a0_0 a0_1 a0_2 a0_3 a0_4 l0_5 a1_0 a1_1 a1_2 a1_3 a1_4 l1_5) else (passepartoutref04_Same.j1 kj3 true a0_0 a0_1 a0_2 a0_3 a0_4 l0_5 a1_0 a1_1 a1_2 a1_3 a1_4 l1_5)) else (passepartoutref04_Same.j1 kj3 true a0_0 a0_1 a0_2 a0_3 a0_4 l0_5 a1_0 a1_1 a1_2 a1_3 a1_4 l1_5)) else (if a0_0 = 2 then (if a0_2 = a1_2 then (if a0_3 = a1_3 then (passepartoutref04_Same.j1 kj3 (a0_4 != a1_4) a0_0 a0_1 a0_2 a0_3 a0_4 l0_5 a1_0 a1_1 a1_2 a1_3 a1_4 l1_5) else (passepartoutref04_Same.j1 kj3 true a0_0 a0_1 a0_2 a0_3 a0_4 l0_5 a1_0 a1_1 a1_2 a1_3 a1_4 l1_5)) else (passepartoutref04_Same.j1 kj3 true a0_0 a0_1 a0_2 a0_3 a0_4 l0_5 a1_0 a1_1 a1_2 a1_3 a1_4 l1_5)) else (passepartoutref04_Same.j1 kj3 false a0_0 a0_1 a0_2 a0_3 a0_4 l0_5 a1_0 a1_1 a1_2 a1_3 a1_4 l1_5))) = some r := by rw [if_neg (show ¬ (false = true) by decide)] at H; exact H
          clear H
          have H := H1
          clear H1
          have HC25 := Aside0.mk H
          clear H
          go_upto_region 5 with (fail)
          go_cut [62] (fun v62 wc => ∃ (kq : Nat) (x62_24 : Bool), v62 = .bool x62_24 ∧ Aside0 (passepartoutref04_Same.j1 kq x62_24 a0_0 a0_1 a0_2 a0_3 a0_4 l0_5 a1_0 a1_1 a1_2 a1_3 a1_4 l1_5 = some r) ∧ Aside0 (kq ≤ kj3) ∧ Aside0 (wc.heap[gb102]? = some (.cells #[.int .i64 a0_0, .int .i64 a0_1, .int .i64 a0_2, .int .i64 a0_3, .int .i64 a0_4, (.slice A0_5 l0_5.length c0_5)] 24 (0, 0))) ∧ Aside0 (wc.heap[gb103]? = some (.cells #[.int .i64 a1_0, .int .i64 a1_1, .int .i64 a1_2, .int .i64 a1_3, .int .i64 a1_4, (.slice A1_5 l1_5.length c1_5)] 24 (0, 0))) ∧ Aside0 (Below w.heap.size w wc))
          case first =>
            have H := HC25.out
            clear HC25
            by_cases c26 : a0_0 = 1
            · rw [if_pos c26] at H
              have c26b0 : (a0_0 == 1) = true := beq_iff_eq.mpr c26
              have c26b1 : (a0_0 != 1) = false := bne_eq_false_iff_eq.mpr c26
              clear c26
              (first | rw [c26b0] | (simp only [i64_w, i32_w]; rw [c26b0]) | skip)
              by_cases c27 : a0_2 = a1_2
              · rw [if_pos c27] at H
                have c27b0 : (a0_2 == a1_2) = true := beq_iff_eq.mpr c27
                have c27b1 : (a0_2 != a1_2) = false := bne_eq_false_iff_eq.mpr c27
                clear c27
                by_cases c28 : a0_3 = a1_3
                · rw [if_pos c28] at H
                  have c28b0 : (a0_3 == a1_3) = true := beq_iff_eq.mpr c28
                  have c28b1 : (a0_3 != a1_3) = false := bne_eq_false_iff_eq.mpr c28
                  clear c28
                  have H' := Aside0.mk H
                  clear H
                  have hnb29 := NB102_103.out
                  have hnc29 := NB103_102.out
                  have hcz30_0 : wc.cell? ⟨gb102, 0, none⟩ = some (.int .i64 a0_0) := (blk_cell BK102.out 0).trans rfl
                  have hcz30_1 : wc.cell? ⟨gb102, 1, none⟩ = some (.int .i64 a0_1) := (blk_cell BK102.out 1).trans rfl
                  have hcz30_2 : wc.cell? ⟨gb102, 2, none⟩ = some (.int .i64 a0_2) := (blk_cell BK102.out 2).trans rfl
                  have hcz30_3 : wc.cell? ⟨gb102, 3, none⟩ = some (.int .i64 a0_3) := (blk_cell BK102.out 3).trans rfl
                  have hcz30_4 : wc.cell? ⟨gb102, 4, none⟩ = some (.int .i64 a0_4) := (blk_cell BK102.out 4).trans rfl
                  have hcz30_5 : wc.cell? ⟨gb102, 5, none⟩ = some (.slice A0_5 l0_5.length c0_5) := (blk_cell BK102.out 5).trans rfl
                  have hfz30_0 := blk_frozen BK102.out 0
                  have hfz30_1 := blk_frozen BK102.out 1
                  have hfz30_2 := blk_frozen BK102.out 2
                  have hfz30_3 := blk_frozen BK102.out 3
                  have hfz30_4 := blk_frozen BK102.out 4
                  have hfz30_5 := blk_frozen BK102.out 5
                  have hcz31_0 : wc.cell? ⟨gb103, 0, none⟩ = some (.int .i64 a1_0) := (blk_cell BK103.out 0).trans rfl
                  have hcz31_1 : wc.cell? ⟨gb103, 1, none⟩ = some (.int .i64 a1_1) := (blk_cell BK103.out 1).trans rfl
                  have hcz31_2 : wc.cell? ⟨gb103, 2, none⟩ = some (.int .i64 a1_2) := (blk_cell BK103.out 2).trans rfl
                  have hcz31_3 : wc.cell? ⟨gb103, 3, none⟩ = some (.int .i64 a1_3) := (blk_cell BK103.out 3).trans rfl
                  have hcz31_4 : wc.cell? ⟨gb103, 4, none⟩ = some (.int .i64 a1_4) := (blk_cell BK103.out 4).trans rfl
                  have hcz31_5 : wc.cell? ⟨gb103, 5, none⟩ = some (.slice A1_5 l1_5.length c1_5) := (blk_cell BK103.out 5).trans rfl
                  have hfz31_0 := blk_frozen BK103.out 0
                  have hfz31_1 := blk_frozen BK103.out 1
                  have hfz31_2 := blk_frozen BK103.out 2
                  have hfz31_3 := blk_frozen BK103.out 3
                  have hfz31_4 := blk_frozen BK103.out 4
                  have hfz31_5 := blk_frozen BK103.out 5
                  go_wp2
                  go_meet
                  case rel => exact ⟨_, ((a0_4 != a1_4)), (by first | rfl | (simp; done) | (simp [*]; done)), H', ⟨by have := HJ3.out; first | omega | exact Nat.le_refl _⟩, ⟨by (with_reducible repeat (first | refine blk_drewN ?_ _ | refine blk_drew ?_ | refine blk_alloc ?_ _)); exact BK102.out⟩, ⟨by (with_reducible repeat (first | refine blk_drewN ?_ _ | refine blk_drew ?_ | refine blk_alloc ?_ _)); exact BK103.out⟩, ⟨by repeat (first | (with_reducible first | exact HB.out | apply below_alloc | apply pw_below_drewN | apply below_drew1 | refine below_set ?_ GE102.out | refine below_set ?_ GE103.out) | exact HB.out)⟩⟩
                · rw [if_neg c28] at H
                  have c28b0 : (a0_3 == a1_3) = false := beq_eq_false_iff_ne.mpr c28
                  have c28b1 : (a0_3 != a1_3) = true := bne_iff_ne.mpr c28
                  have H' := Aside0.mk H
                  clear H
                  have hnb32 := NB102_103.out
                  have hnc32 := NB103_102.out
                  have hcz33_0 : wc.cell? ⟨gb102, 0, none⟩ = some (.int .i64 a0_0) := (blk_cell BK102.out 0).trans rfl
                  have hcz33_1 : wc.cell? ⟨gb102, 1, none⟩ = some (.int .i64 a0_1) := (blk_cell BK102.out 1).trans rfl
                  have hcz33_2 : wc.cell? ⟨gb102, 2, none⟩ = some (.int .i64 a0_2) := (blk_cell BK102.out 2).trans rfl
                  have hcz33_3 : wc.cell? ⟨gb102, 3, none⟩ = some (.int .i64 a0_3) := (blk_cell BK102.out 3).trans rfl
                  have hcz33_4 : wc.cell? ⟨gb102, 4, none⟩ = some (.int .i64 a0_4) := (blk_cell BK102.out 4).trans rfl
                  have hcz33_5 : wc.cell? ⟨gb102, 5, none⟩ = some (.slice A0_5 l0_5.length c0_5) := (blk_cell BK102.out 5).trans rfl
                  have hfz33_0 := blk_frozen BK102.out 0
                  have hfz33_1 := blk_frozen BK102.out 1
                  have hfz33_2 := blk_frozen BK102.out 2
                  have hfz33_3 := blk_frozen BK102.out 3
                  have hfz33_4 := blk_frozen BK102.out 4
                  have hfz33_5 := blk_frozen BK102.out 5
                  have hcz34_0 : wc.cell? ⟨gb103, 0, none⟩ = some (.int .i64 a1_0) := (blk_cell BK103.out 0).trans rfl
                  have hcz34_1 : wc.cell? ⟨gb103, 1, none⟩ = some (.int .i64 a1_1) := (blk_cell BK103.out 1).trans rfl
                  have hcz34_2 : wc.cell? ⟨gb103, 2, none⟩ = some (.int .i64 a1_2) := (blk_cell BK103.out 2).trans rfl
                  have hcz34_3 : wc.cell? ⟨gb103, 3, none⟩ = some (.int .i64 a1_3) := (blk_cell BK103.out 3).trans rfl
                  have hcz34_4 : wc.cell? ⟨gb103, 4, none⟩ = some (.int .i64 a1_4) := (blk_cell BK103.out 4).trans rfl
                  have hcz34_5 : wc.cell? ⟨gb103, 5, none⟩ = some (.slice A1_5 l1_5.length c1_5) := (blk_cell BK103.out 5).trans rfl
                  have hfz34_0 := blk_frozen BK103.out 0
                  have hfz34_1 := blk_frozen BK103.out 1
                  have hfz34_2 := blk_frozen BK103.out 2
                  have hfz34_3 := blk_frozen BK103.out 3
                  have hfz34_4 := blk_frozen BK103.out 4
                  have hfz34_5 := blk_frozen BK103.out 5
                  go_wp2
                  go_meet
                  case rel => exact ⟨_, (true), (by first | rfl | (simp; done) | (simp [*]; done)), H', ⟨by have := HJ3.out; first | omega | exact Nat.le_refl _⟩, ⟨by (with_reducible repeat (first | refine blk_drewN ?_ _ | refine blk_drew ?_ | refine blk_alloc ?_ _)); exact BK102.out⟩, ⟨by (with_reducible repeat (first | refine blk_drewN ?_ _ | refine blk_drew ?_ | refine blk_alloc ?_ _)); exact BK103.out⟩, ⟨by repeat (first | (with_reducible first | exact HB.out | apply below_alloc | apply pw_below_drewN | apply below_drew1 | refine below_set ?_ GE102.out | refine below_set ?_ GE103.out) | exact HB.out)⟩⟩
              · rw [if_neg c27] at H
                have c27b0 : (a0_2 == a1_2) = false := beq_eq_false_iff_ne.mpr c27
                have c27b1 : (a0_2 != a1_2) = true := bne_iff_ne.mpr c27
                have H' := Aside0.mk H
                clear H
                have hnb35 := NB102_103.out
                have hnc35 := NB103_102.out
                have hcz36_0 : wc.cell? ⟨gb102, 0, none⟩ = some (.int .i64 a0_0) := (blk_cell BK102.out 0).trans rfl
                have hcz36_1 : wc.cell? ⟨gb102, 1, none⟩ = some (.int .i64 a0_1) := (blk_cell BK102.out 1).trans rfl
                have hcz36_2 : wc.cell? ⟨gb102, 2, none⟩ = some (.int .i64 a0_2) := (blk_cell BK102.out 2).trans rfl
                have hcz36_3 : wc.cell? ⟨gb102, 3, none⟩ = some (.int .i64 a0_3) := (blk_cell BK102.out 3).trans rfl
                have hcz36_4 : wc.cell? ⟨gb102, 4, none⟩ = some (.int .i64 a0_4) := (blk_cell BK102.out 4).trans rfl
                have hcz36_5 : wc.cell? ⟨gb102, 5, none⟩ = some (.slice A0_5 l0_5.length c0_5) := (blk_cell BK102.out 5).trans rfl
                have hfz36_0 := blk_frozen BK102.out 0
                have hfz36_1 := blk_frozen BK102.out 1
                have hfz36_2 := blk_frozen BK102.out 2
                have hfz36_3 := blk_frozen BK102.out 3
                have hfz36_4 := blk_frozen BK102.out 4
                have hfz36_5 := blk_frozen BK102.out 5
                have hcz37_0 : wc.cell? ⟨gb103, 0, none⟩ = some (.int .i64 a1_0) := (blk_cell BK103.out 0).trans rfl
                have hcz37_1 : wc.cell? ⟨gb103, 1, none⟩ = some (.int .i64 a1_1) := (blk_cell BK103.out 1).trans rfl
                have hcz37_2 : wc.cell? ⟨gb103, 2, none⟩ = some (.int .i64 a1_2) := (blk_cell BK103.out 2).trans rfl
                have hcz37_3 : wc.cell? ⟨gb103, 3, none⟩ = some (.int .i64 a1_3) := (blk_cell BK103.out 3).trans rfl
                have hcz37_4 : wc.cell? ⟨gb103, 4, none⟩ = some (.int .i64 a1_4) := (blk_cell BK103.out 4).trans rfl
                have hcz37_5 : wc.cell? ⟨gb103, 5, none⟩ = some (.slice A1_5 l1_5.length c1_5) := (blk_cell BK103.out 5).trans rfl
                have hfz37_0 := blk_frozen BK103.out 0
                have hfz37_1 := blk_frozen BK103.out 1
                have hfz37_2 := blk_frozen BK103.out 2
                have hfz37_3 := blk_frozen BK103.out 3
                have hfz37_4 := blk_frozen BK103.out 4
                have hfz37_5 := blk_frozen BK103.out 5
                go_wp2
                go_meet
                case rel => exact ⟨_, (true), (by first | rfl | (simp; done) | (simp [*]; done)), H', ⟨by have := HJ3.out; first | omega | exact Nat.le_refl _⟩, ⟨by (with_reducible repeat (first | refine blk_drewN ?_ _ | refine blk_drew ?_ | refine blk_alloc ?_ _)); exact BK102.out⟩, ⟨by (with_reducible repeat (first | refine blk_drewN ?_ _ | refine blk_drew ?_ | refine blk_alloc ?_ _)); exact BK103.out⟩, ⟨by repeat (first | (with_reducible first | exact HB.out | apply below_alloc | apply pw_below_drewN | apply below_drew1 | refine below_set ?_ GE102.out | refine below_set ?_ GE103.out) | exact HB.out)⟩⟩
            · rw [if_neg c26] at H
              have c26b0 : (a0_0 == 1) = false := beq_eq_false_iff_ne.mpr c26
              have c26b1 : (a0_0 != 1) = true := bne_iff_ne.mpr c26
              (first | rw [c26b0] | (simp only [i64_w, i32_w]; rw [c26b0]) | skip)
              by_cases c38 : a0_0 = 2
              · rw [if_pos c38] at H
                have c38b0 : (a0_0 == 2) = true := beq_iff_eq.mpr c38
                have c38b1 : (a0_0 != 2) = false := bne_eq_false_iff_eq.mpr c38
                clear c38
                by_cases c39 : a0_2 = a1_2
                · rw [if_pos c39] at H
                  have c39b0 : (a0_2 == a1_2) = true := beq_iff_eq.mpr c39
                  have c39b1 : (a0_2 != a1_2) = false := bne_eq_false_iff_eq.mpr c39
                  clear c39
                  by_cases c40 : a0_3 = a1_3
                  · rw [if_pos c40] at H
                    have c40b0 : (a0_3 == a1_3) = true := beq_iff_eq.mpr c40
                    have c40b1 : (a0_3 != a1_3) = false := bne_eq_false_iff_eq.mpr c40
                    clear c40
                    have H' := Aside0.mk H
                    clear H
                    have hnb41 := NB102_103.out
                    have hnc41 := NB103_102.out
                    have hcz42_0 : wc.cell? ⟨gb102, 0, none⟩ = some (.int .i64 a0_0) := (blk_cell BK102.out 0).trans rfl
                    have hcz42_1 : wc.cell? ⟨gb102, 1, none⟩ = some (.int .i64 a0_1) := (blk_cell BK102.out 1).trans rfl
                    have hcz42_2 : wc.cell? ⟨gb102, 2, none⟩ = some (.int .i64 a0_2) := (blk_cell BK102.out 2).trans rfl
                    have hcz42_3 : wc.cell? ⟨gb102, 3, none⟩ = some (.int .i64 a0_3) := (blk_cell BK102.out 3).trans rfl
                    have hcz42_4 : wc.cell? ⟨gb102, 4, none⟩ = some (.int .i64 a0_4) := (blk_cell BK102.out 4).trans rfl
                    have hcz42_5 : wc.cell? ⟨gb102, 5, none⟩ = some (.slice A0_5 l0_5.length c0_5) := (blk_cell BK102.out 5).trans rfl
                    have hfz42_0 := blk_frozen BK102.out 0
                    have hfz42_1 := blk_frozen BK102.out 1
                    have hfz42_2 := blk_frozen BK102.out 2
                    have hfz42_3 := blk_frozen BK102.out 3
                    have hfz42_4 := blk_frozen BK102.out 4
                    have hfz42_5 := blk_frozen BK102.out 5
                    have hcz43_0 : wc.cell? ⟨gb103, 0, none⟩ = some (.int .i64 a1_0) := (blk_cell BK103.out 0).trans rfl
                    have hcz43_1 : wc.cell? ⟨gb103, 1, none⟩ = some (.int .i64 a1_1) := (blk_cell BK103.out 1).trans rfl
                    have hcz43_2 : wc.cell? ⟨gb103, 2, none⟩ = some (.int .i64 a1_2) := (blk_cell BK103.out 2).trans rfl
                    have hcz43_3 : wc.cell? ⟨gb103, 3, none⟩ = some (.int .i64 a1_3) := (blk_cell BK103.out 3).trans rfl
                    have hcz43_4 : wc.cell? ⟨gb103, 4, none⟩ = some (.int .i64 a1_4) := (blk_cell BK103.out 4).trans rfl
                    have hcz43_5 : wc.cell? ⟨gb103, 5, none⟩ = some (.slice A1_5 l1_5.length c1_5) := (blk_cell BK103.out 5).trans rfl
                    have hfz43_0 := blk_frozen BK103.out 0
                    have hfz43_1 := blk_frozen BK103.out 1
                    have hfz43_2 := blk_frozen BK103.out 2
                    have hfz43_3 := blk_frozen BK103.out 3
                    have hfz43_4 := blk_frozen BK103.out 4
                    have hfz43_5 := blk_frozen BK103.out 5
                    go_wp2
                    go_meet
                    case rel => exact ⟨_, ((a0_4 != a1_4)), (by first | rfl | (simp; done) | (simp [*]; done)), H', ⟨by have := HJ3.out; first | omega | exact Nat.le_refl _⟩, ⟨by (with_reducible repeat (first | refine blk_drewN ?_ _ | refine blk_drew ?_ | refine blk_alloc ?_ _)); exact BK102.out⟩, ⟨by (with_reducible repeat (first | refine blk_drewN ?_ _ | refine blk_drew ?_ | refine blk_alloc ?_ _)); exact BK103.out⟩, ⟨by repeat (first | (with_reducible first | exact HB.out | apply below_alloc | apply pw_below_drewN | apply below_drew1 | refine below_set ?_ GE102.out | refine below_set ?_ GE103.out) | exact HB.out)⟩⟩
                  · rw [if_neg c40] at H
                    have c40b0 : (a0_3 == a1_3) = false := beq_eq_false_iff_ne.mpr c40
                    have c40b1 : (a0_3 != a1_3) = true := bne_iff_ne.mpr c40
                    have H' := Aside0.mk H
                    clear H
                    have hnb44 := NB102_103.out
                    have hnc44 := NB103_102.out
                    have hcz45_0 : wc.cell? ⟨gb102, 0, none⟩ = some (.int .i64 a0_0) := (blk_cell BK102.out 0).trans rfl
                    have hcz45_1 : wc.cell? ⟨gb102, 1, none⟩ = some (.int .i64 a0_1) := (blk_cell BK102.out 1).trans rfl
                    have hcz45_2 : wc.cell? ⟨gb102, 2, none⟩ = some (.int .i64 a0_2) := (blk_cell BK102.out 2).trans rfl
                    have hcz45_3 : wc.cell? ⟨gb102, 3, none⟩ = some (.int .i64 a0_3) := (blk_cell BK102.out 3).trans rfl
                    have hcz45_4 : wc.cell? ⟨gb102, 4, none⟩ = some (.int .i64 a0_4) := (blk_cell BK102.out 4).trans rfl
                    have hcz45_5 : wc.cell? ⟨gb102, 5, none⟩ = some (.slice A0_5 l0_5.length c0_5) := (blk_cell BK102.out 5).trans rfl
                    have hfz45_0 := blk_frozen BK102.out 0
                    have hfz45_1 := blk_frozen BK102.out 1
                    have hfz45_2 := blk_frozen BK102.out 2
                    have hfz45_3 := blk_frozen BK102.out 3
                    have hfz45_4 := blk_frozen BK102.out 4
                    have hfz45_5 := blk_frozen BK102.out 5
                    have hcz46_0 : wc.cell? ⟨gb103, 0, none⟩ = some (.int .i64 a1_0) := (blk_cell BK103.out 0).trans rfl
                    have hcz46_1 : wc.cell? ⟨gb103, 1, none⟩ = some (.int .i64 a1_1) := (blk_cell BK103.out 1).trans rfl
                    have hcz46_2 : wc.cell? ⟨gb103, 2, none⟩ = some (.int .i64 a1_2) := (blk_cell BK103.out 2).trans rfl
                    have hcz46_3 : wc.cell? ⟨gb103, 3, none⟩ = some (.int .i64 a1_3) := (blk_cell BK103.out 3).trans rfl
                    have hcz46_4 : wc.cell? ⟨gb103, 4, none⟩ = some (.int .i64 a1_4) := (blk_cell BK103.out 4).trans rfl
                    have hcz46_5 : wc.cell? ⟨gb103, 5, none⟩ = some (.slice A1_5 l1_5.length c1_5) := (blk_cell BK103.out 5).trans rfl
                    have hfz46_0 := blk_frozen BK103.out 0
                    have hfz46_1 := blk_frozen BK103.out 1
                    have hfz46_2 := blk_frozen BK103.out 2
                    have hfz46_3 := blk_frozen BK103.out 3
                    have hfz46_4 := blk_frozen BK103.out 4
                    have hfz46_5 := blk_frozen BK103.out 5
                    go_wp2
                    go_meet
                    case rel => exact ⟨_, (true), (by first | rfl | (simp; done) | (simp [*]; done)), H', ⟨by have := HJ3.out; first | omega | exact Nat.le_refl _⟩, ⟨by (with_reducible repeat (first | refine blk_drewN ?_ _ | refine blk_drew ?_ | refine blk_alloc ?_ _)); exact BK102.out⟩, ⟨by (with_reducible repeat (first | refine blk_drewN ?_ _ | refine blk_drew ?_ | refine blk_alloc ?_ _)); exact BK103.out⟩, ⟨by repeat (first | (with_reducible first | exact HB.out | apply below_alloc | apply pw_below_drewN | apply below_drew1 | refine below_set ?_ GE102.out | refine below_set ?_ GE103.out) | exact HB.out)⟩⟩
                · rw [if_neg c39] at H
                  have c39b0 : (a0_2 == a1_2) = false := beq_eq_false_iff_ne.mpr c39
                  have c39b1 : (a0_2 != a1_2) = true := bne_iff_ne.mpr c39
                  have H' := Aside0.mk H
                  clear H
                  have hnb47 := NB102_103.out
                  have hnc47 := NB103_102.out
                  have hcz48_0 : wc.cell? ⟨gb102, 0, none⟩ = some (.int .i64 a0_0) := (blk_cell BK102.out 0).trans rfl
                  have hcz48_1 : wc.cell? ⟨gb102, 1, none⟩ = some (.int .i64 a0_1) := (blk_cell BK102.out 1).trans rfl
                  have hcz48_2 : wc.cell? ⟨gb102, 2, none⟩ = some (.int .i64 a0_2) := (blk_cell BK102.out 2).trans rfl
                  have hcz48_3 : wc.cell? ⟨gb102, 3, none⟩ = some (.int .i64 a0_3) := (blk_cell BK102.out 3).trans rfl
                  have hcz48_4 : wc.cell? ⟨gb102, 4, none⟩ = some (.int .i64 a0_4) := (blk_cell BK102.out 4).trans rfl
                  have hcz48_5 : wc.cell? ⟨gb102, 5, none⟩ = some (.slice A0_5 l0_5.length c0_5) := (blk_cell BK102.out 5).trans rfl
                  have hfz48_0 := blk_frozen BK102.out 0
                  have hfz48_1 := blk_frozen BK102.out 1
                  have hfz48_2 := blk_frozen BK102.out 2
                  have hfz48_3 := blk_frozen BK102.out 3
                  have hfz48_4 := blk_frozen BK102.out 4
                  have hfz48_5 := blk_frozen BK102.out 5
                  have hcz49_0 : wc.cell? ⟨gb103, 0, none⟩ = some (.int .i64 a1_0) := (blk_cell BK103.out 0).trans rfl
                  have hcz49_1 : wc.cell? ⟨gb103, 1, none⟩ = some (.int .i64 a1_1) := (blk_cell BK103.out 1).trans rfl
                  have hcz49_2 : wc.cell? ⟨gb103, 2, none⟩ = some (.int .i64 a1_2) := (blk_cell BK103.out 2).trans rfl
                  have hcz49_3 : wc.cell? ⟨gb103, 3, none⟩ = some (.int .i64 a1_3) := (blk_cell BK103.out 3).trans rfl
                  have hcz49_4 : wc.cell? ⟨gb103, 4, none⟩ = some (.int .i64 a1_4) := (blk_cell BK103.out 4).trans rfl
                  have hcz49_5 : wc.cell? ⟨gb103, 5, none⟩ = some (.slice A1_5 l1_5.length c1_5) := (blk_cell BK103.out 5).trans rfl
                  have hfz49_0 := blk_frozen BK103.out 0
                  have hfz49_1 := blk_frozen BK103.out 1
                  have hfz49_2 := blk_frozen BK103.out 2
                  have hfz49_3 := blk_frozen BK103.out 3
                  have hfz49_4 := blk_frozen BK103.out 4
                  have hfz49_5 := blk_frozen BK103.out 5
                  go_wp2
                  go_meet
                  case rel => exact ⟨_, (true), (by first | rfl | (simp; done) | (simp [*]; done)), H', ⟨by have := HJ3.out; first | omega | exact Nat.le_refl _⟩, ⟨by (with_reducible repeat (first | refine blk_drewN ?_ _ | refine blk_drew ?_ | refine blk_alloc ?_ _)); exact BK102.out⟩, ⟨by (with_reducible repeat (first | refine blk_drewN ?_ _ | refine blk_drew ?_ | refine blk_alloc ?_ _)); exact BK103.out⟩, ⟨by repeat (first | (with_reducible first | exact HB.out | apply below_alloc | apply pw_below_drewN | apply below_drew1 | refine below_set ?_ GE102.out | refine below_set ?_ GE103.out) | exact HB.out)⟩⟩
              · rw [if_neg c38] at H
                have c38b0 : (a0_0 == 2) = false := beq_eq_false_iff_ne.mpr c38
                have c38b1 : (a0_0 != 2) = true := bne_iff_ne.mpr c38
                have H' := Aside0.mk H
                clear H
                have hnb50 := NB102_103.out
                have hnc50 := NB103_102.out
                have hcz51_0 : wc.cell? ⟨gb102, 0, none⟩ = some (.int .i64 a0_0) := (blk_cell BK102.out 0).trans rfl
                have hcz51_1 : wc.cell? ⟨gb102, 1, none⟩ = some (.int .i64 a0_1) := (blk_cell BK102.out 1).trans rfl
                have hcz51_2 : wc.cell? ⟨gb102, 2, none⟩ = some (.int .i64 a0_2) := (blk_cell BK102.out 2).trans rfl
                have hcz51_3 : wc.cell? ⟨gb102, 3, none⟩ = some (.int .i64 a0_3) := (blk_cell BK102.out 3).trans rfl
                have hcz51_4 : wc.cell? ⟨gb102, 4, none⟩ = some (.int .i64 a0_4) := (blk_cell BK102.out 4).trans rfl
                have hcz51_5 : wc.cell? ⟨gb102, 5, none⟩ = some (.slice A0_5 l0_5.length c0_5) := (blk_cell BK102.out 5).trans rfl
                have hfz51_0 := blk_frozen BK102.out 0
                have hfz51_1 := blk_frozen BK102.out 1
                have hfz51_2 := blk_frozen BK102.out 2
                have hfz51_3 := blk_frozen BK102.out 3
                have hfz51_4 := blk_frozen BK102.out 4
                have hfz51_5 := blk_frozen BK102.out 5
                go_wp2
                go_meet
                case rel => exact ⟨_, (false), (by first | rfl | (simp; done) | (simp [*]; done)), H', ⟨by have := HJ3.out; first | omega | exact Nat.le_refl _⟩, ⟨by (with_reducible repeat (first | refine blk_drewN ?_ _ | refine blk_drew ?_ | refine blk_alloc ?_ _)); exact BK102.out⟩, ⟨by (with_reducible repeat (first | refine blk_drewN ?_ _ | refine blk_drew ?_ | refine blk_alloc ?_ _)); exact BK103.out⟩, ⟨by repeat (first | (with_reducible first | exact HB.out | apply below_alloc | apply pw_below_drewN | apply below_drew1 | refine below_set ?_ GE102.out | refine below_set ?_ GE103.out) | exact HB.out)⟩⟩
          case rest =>
            clear HC25
            try clear c1
            try clear c2
            try clear p2
            try clear c3
            try clear c3b0
            try clear c3b1
            try clear c4
            try clear c5
            try clear c7
            try clear c10
            try clear c10b0
            try clear c10b1
            try clear c11
            try clear c14
            try clear c14b0
            try clear c14b1
            try clear c15
            try clear c18
            try clear c18b0
            try clear c18b1
            try clear c19
            try clear c22
            try clear c24
            try clear c26
            try clear c26b0
            try clear c26b1
            try clear c27
            try clear c27b0
            try clear c27b1
            try clear c28
            try clear c28b0
            try clear c28b1
            try clear c29
            try clear c32
            try clear c35
            try clear c38
            try clear c38b0
            try clear c38b1
            try clear c39
            try clear c39b0
            try clear c39b1
            try clear c40
            try clear c40b0
            try clear c40b1
            try clear c41
            try clear c44
            try clear c47
            try clear c50
            try clear hcz12_0
            try clear hcz12_1
            try clear hcz12_2
            try clear hcz12_3
            try clear hcz12_4
            try clear hcz12_5
            try clear hcz13_0
            try clear hcz13_1
            try clear hcz13_2
            try clear hcz13_3
            try clear hcz13_4
            try clear hcz13_5
            try clear hcz16_0
            try clear hcz16_1
            try clear hcz16_2
            try clear hcz16_3
            try clear hcz16_4
            try clear hcz16_5
            try clear hcz17_0
            try clear hcz17_1
            try clear hcz17_2
            try clear hcz17_3
            try clear hcz17_4
            try clear hcz17_5
            try clear hcz20_0
            try clear hcz20_1
            try clear hcz20_2
            try clear hcz20_3
            try clear hcz20_4
            try clear hcz20_5
            try clear hcz21_0
            try clear hcz21_1
            try clear hcz21_2
            try clear hcz21_3
            try clear hcz21_4
            try clear hcz21_5
            try clear hcz23_0
            try clear hcz23_1
            try clear hcz23_2
            try clear hcz23_3
            try clear hcz23_4
            try clear hcz23_5
            try clear hcz30_0
            try clear hcz30_1
            try clear hcz30_2
            try clear hcz30_3
            try clear hcz30_4
            try clear hcz30_5
            try clear hcz31_0
            try clear hcz31_1
            try clear hcz31_2
            try clear hcz31_3
            try clear hcz31_4
            try clear hcz31_5
            try clear hcz33_0
            try clear hcz33_1
            try clear hcz33_2
            try clear hcz33_3
            try clear hcz33_4
            try clear hcz33_5
            try clear hcz34_0
            try clear hcz34_1
            try clear hcz34_2
            try clear hcz34_3
            try clear hcz34_4
            try clear hcz34_5
            try clear hcz36_0
            try clear hcz36_1
            try clear hcz36_2
            try clear hcz36_3
            try clear hcz36_4
            try clear hcz36_5
            try clear hcz37_0
            try clear hcz37_1
            try clear hcz37_2
            try clear hcz37_3
            try clear hcz37_4
            try clear hcz37_5
            try clear hcz42_0
            try clear hcz42_1
            try clear hcz42_2
            try clear hcz42_3
            try clear hcz42_4
            try clear hcz42_5
            try clear hcz43_0
            try clear hcz43_1
            try clear hcz43_2
            try clear hcz43_3
            try clear hcz43_4
            try clear hcz43_5
            try clear hcz45_0
            try clear hcz45_1
            try clear hcz45_2
            try clear hcz45_3
            try clear hcz45_4
            try clear hcz45_5
            try clear hcz46_0
            try clear hcz46_1
            try clear hcz46_2
            try clear hcz46_3
            try clear hcz46_4
            try clear hcz46_5
            try clear hcz48_0
            try clear hcz48_1
            try clear hcz48_2
            try clear hcz48_3
            try clear hcz48_4
            try clear hcz48_5
            try clear hcz49_0
            try clear hcz49_1
            try clear hcz49_2
            try clear hcz49_3
            try clear hcz49_4
            try clear hcz49_5
            try clear hcz51_0
            try clear hcz51_1
            try clear hcz51_2
            try clear hcz51_3
            try clear hcz51_4
            try clear hcz51_5
            try clear hcz8_0
            try clear hcz8_1
            try clear hcz8_2
            try clear hcz8_3
            try clear hcz8_4
            try clear hcz8_5
            try clear hcz9_0
            try clear hcz9_1
            try clear hcz9_2
            try clear hcz9_3
            try clear hcz9_4
            try clear hcz9_5
            try clear hfz12_0
            try clear hfz12_1
            try clear hfz12_2
            try clear hfz12_3
            try clear hfz12_4
            try clear hfz12_5
            try clear hfz13_0
            try clear hfz13_1
            try clear hfz13_2
            try clear hfz13_3
            try clear hfz13_4
            try clear hfz13_5
            try clear hfz16_0
            try clear hfz16_1
            try clear hfz16_2
            try clear hfz16_3
            try clear hfz16_4
            try clear hfz16_5
            try clear hfz17_0
            try clear hfz17_1
            try clear hfz17_2
            try clear hfz17_3
            try clear hfz17_4
            try clear hfz17_5
            try clear hfz20_0
            try clear hfz20_1
            try clear hfz20_2
            try clear hfz20_3
            try clear hfz20_4
            try clear hfz20_5
            try clear hfz21_0
            try clear hfz21_1
            try clear hfz21_2
            try clear hfz21_3
            try clear hfz21_4
            try clear hfz21_5
            try clear hfz23_0
            try clear hfz23_1
            try clear hfz23_2
            try clear hfz23_3
            try clear hfz23_4
            try clear hfz23_5
            try clear hfz30_0
            try clear hfz30_1
            try clear hfz30_2
            try clear hfz30_3
            try clear hfz30_4
            try clear hfz30_5
            try clear hfz31_0
            try clear hfz31_1
            try clear hfz31_2
            try clear hfz31_3
            try clear hfz31_4
            try clear hfz31_5
            try clear hfz33_0
            try clear hfz33_1
            try clear hfz33_2
            try clear hfz33_3
            try clear hfz33_4
            try clear hfz33_5
            try clear hfz34_0
            try clear hfz34_1
            try clear hfz34_2
            try clear hfz34_3
            try clear hfz34_4
            try clear hfz34_5
            try clear hfz36_0
            try clear hfz36_1
            try clear hfz36_2
            try clear hfz36_3
            try clear hfz36_4
            try clear hfz36_5
            try clear hfz37_0
            try clear hfz37_1
            try clear hfz37_2
            try clear hfz37_3
            try clear hfz37_4
            try clear hfz37_5
            try clear hfz42_0
            try clear hfz42_1
            try clear hfz42_2
            try clear hfz42_3
            try clear hfz42_4
            try clear hfz42_5
            try clear hfz43_0
            try clear hfz43_1
            try clear hfz43_2
            try clear hfz43_3
            try clear hfz43_4
            try clear hfz43_5
            try clear hfz45_0
            try clear hfz45_1
            try clear hfz45_2
            try clear hfz45_3
            try clear hfz45_4
            try clear hfz45_5
            try clear hfz46_0
            try clear hfz46_1
            try clear hfz46_2
            try clear hfz46_3
            try clear hfz46_4
            try clear hfz46_5
            try clear hfz48_0
            try clear hfz48_1
            try clear hfz48_2
            try clear hfz48_3
            try clear hfz48_4
            try clear hfz48_5
            try clear hfz49_0
            try clear hfz49_1
            try clear hfz49_2
            try clear hfz49_3
            try clear hfz49_4
            try clear hfz49_5
            try clear hfz51_0
            try clear hfz51_1
            try clear hfz51_2
            try clear hfz51_3
            try clear hfz51_4
            try clear hfz51_5
            try clear hfz8_0
            try clear hfz8_1
            try clear hfz8_2
            try clear hfz8_3
            try clear hfz8_4
            try clear hfz8_5
            try clear hfz9_0
            try clear hfz9_1
            try clear hfz9_2
            try clear hfz9_3
            try clear hfz9_4
            try clear hfz9_5
            try clear p2
            obtain ⟨kq, x62_24, rfl, HA, HJ24, BK102, BK103, HB⟩ := hcut
            cases kq with
            | zero => exact absurd HA.out (by simp [passepartoutref04_Same.j1])
            | succ kj24 =>
              have H := HA.out
              clear HA
              simp only [passepartoutref04_Same.j1] at H
              by_cases c52 : x62_24 = true
              · subst c52
                have H1 : (some false) = some r := by rw [if_pos rfl] at H; exact H
                clear H
                have H := H1
                clear H1
                obtain rfl := Option.some.inj H
                go_wp2
                go_ret
                exact ⟨by first | rfl | (simp [errW_none, errW_some] <;> rfl) | (simp [*, errW_none, errW_some] <;> rfl), by repeat (first | (with_reducible first | exact HB.out | apply below_alloc | apply pw_below_drewN | apply below_drew1 | refine below_set ?_ GE102.out | refine below_set ?_ GE103.out) | exact HB.out)⟩
              · replace c52 := Bool.eq_false_iff.mpr c52
                subst c52
                have H1 : (if a0_0 = 4 then (if a0_2 = a1_2 then (passepartoutref04_Same.j2 kj24 (a0_3 != a1_3) a0_0 a0_1 a0_2 a0_3 a0_4 l0_5 a1_0 a1_1 a1_2 a1_3 a1_4 l1_5) else (passepartoutref04_Same.j2 kj24 true a0_0 a0_1 a0_2 a0_3 a0_4 l0_5 a1_0 a1_1 a1_2 a1_3 a1_4 l1_5)) else (if a0_0 = 5 then (if a0_2 = a1_2 then (passepartoutref04_Same.j2 kj24 false a0_0 a0_1 a0_2 a0_3 a0_4 l0_5 a1_0 a1_1 a1_2 a1_3 a1_4 l1_5) else (passepartoutref04_Same.j2 kj24 true a0_0 a0_1 a0_2 a0_3 a0_4 l0_5 a1_0 a1_1 a1_2 a1_3 a1_4 l1_5)) else (passepartoutref04_Same.j2 kj24 false a0_0 a0_1 a0_2 a0_3 a0_4 l0_5 a1_0 a1_1 a1_2 a1_3 a1_4 l1_5))) = some r := by rw [if_neg (show ¬ (false = true) by decide)] at H; exact H
                clear H
                have H := H1
                clear H1
                have HC53 := Aside0.mk H
                clear H
                go_upto_region 7 with (fail)
                go_cut [89] (fun v89 wc => ∃ (kq : Nat) (x89_52 : Bool), v89 = .bool x89_52 ∧ Aside0 (passepartoutref04_Same.j2 kq x89_52 a0_0 a0_1 a0_2 a0_3 a0_4 l0_5 a1_0 a1_1 a1_2 a1_3 a1_4 l1_5 = some r) ∧ Aside0 (kq ≤ kj24) ∧ Aside0 (wc.heap[gb102]? = some (.cells #[.int .i64 a0_0, .int .i64 a0_1, .int .i64 a0_2, .int .i64 a0_3, .int .i64 a0_4, (.slice A0_5 l0_5.length c0_5)] 24 (0, 0))) ∧ Aside0 (wc.heap[gb103]? = some (.cells #[.int .i64 a1_0, .int .i64 a1_1, .int .i64 a1_2, .int .i64 a1_3, .int .i64 a1_4, (.slice A1_5 l1_5.length c1_5)] 24 (0, 0))) ∧ Aside0 (Below w.heap.size w wc))
                case first =>
                  have H := HC53.out
                  clear HC53
                  by_cases c54 : a0_0 = 4
                  · rw [if_pos c54] at H
                    have c54b0 : (a0_0 == 4) = true := beq_iff_eq.mpr c54
                    have c54b1 : (a0_0 != 4) = false := bne_eq_false_iff_eq.mpr c54
                    clear c54
                    (first | rw [c54b0] | (simp only [i64_w, i32_w]; rw [c54b0]) | skip)
                    by_cases c55 : a0_2 = a1_2
                    · rw [if_pos c55] at H
                      have c55b0 : (a0_2 == a1_2) = true := beq_iff_eq.mpr c55
                      have c55b1 : (a0_2 != a1_2) = false := bne_eq_false_iff_eq.mpr c55
                      clear c55
                      have H' := Aside0.mk H
                      clear H
                      have hnb56 := NB102_103.out
                      have hnc56 := NB103_102.out
                      have hcz57_0 : wc.cell? ⟨gb102, 0, none⟩ = some (.int .i64 a0_0) := (blk_cell BK102.out 0).trans rfl
                      have hcz57_1 : wc.cell? ⟨gb102, 1, none⟩ = some (.int .i64 a0_1) := (blk_cell BK102.out 1).trans rfl
                      have hcz57_2 : wc.cell? ⟨gb102, 2, none⟩ = some (.int .i64 a0_2) := (blk_cell BK102.out 2).trans rfl
                      have hcz57_3 : wc.cell? ⟨gb102, 3, none⟩ = some (.int .i64 a0_3) := (blk_cell BK102.out 3).trans rfl
                      have hcz57_4 : wc.cell? ⟨gb102, 4, none⟩ = some (.int .i64 a0_4) := (blk_cell BK102.out 4).trans rfl
                      have hcz57_5 : wc.cell? ⟨gb102, 5, none⟩ = some (.slice A0_5 l0_5.length c0_5) := (blk_cell BK102.out 5).trans rfl
                      have hfz57_0 := blk_frozen BK102.out 0
                      have hfz57_1 := blk_frozen BK102.out 1
                      have hfz57_2 := blk_frozen BK102.out 2
                      have hfz57_3 := blk_frozen BK102.out 3
                      have hfz57_4 := blk_frozen BK102.out 4
                      have hfz57_5 := blk_frozen BK102.out 5
                      have hcz58_0 : wc.cell? ⟨gb103, 0, none⟩ = some (.int .i64 a1_0) := (blk_cell BK103.out 0).trans rfl
                      have hcz58_1 : wc.cell? ⟨gb103, 1, none⟩ = some (.int .i64 a1_1) := (blk_cell BK103.out 1).trans rfl
                      have hcz58_2 : wc.cell? ⟨gb103, 2, none⟩ = some (.int .i64 a1_2) := (blk_cell BK103.out 2).trans rfl
                      have hcz58_3 : wc.cell? ⟨gb103, 3, none⟩ = some (.int .i64 a1_3) := (blk_cell BK103.out 3).trans rfl
                      have hcz58_4 : wc.cell? ⟨gb103, 4, none⟩ = some (.int .i64 a1_4) := (blk_cell BK103.out 4).trans rfl
                      have hcz58_5 : wc.cell? ⟨gb103, 5, none⟩ = some (.slice A1_5 l1_5.length c1_5) := (blk_cell BK103.out 5).trans rfl
                      have hfz58_0 := blk_frozen BK103.out 0
                      have hfz58_1 := blk_frozen BK103.out 1
                      have hfz58_2 := blk_frozen BK103.out 2
                      have hfz58_3 := blk_frozen BK103.out 3
                      have hfz58_4 := blk_frozen BK103.out 4
                      have hfz58_5 := blk_frozen BK103.out 5
                      go_wp2
                      go_meet
                      case rel => exact ⟨_, ((a0_3 != a1_3)), (by first | rfl | (simp; done) | (simp [*]; done)), H', ⟨by have := HJ3.out; have := HJ24.out; first | omega | exact Nat.le_refl _⟩, ⟨by (with_reducible repeat (first | refine blk_drewN ?_ _ | refine blk_drew ?_ | refine blk_alloc ?_ _)); exact BK102.out⟩, ⟨by (with_reducible repeat (first | refine blk_drewN ?_ _ | refine blk_drew ?_ | refine blk_alloc ?_ _)); exact BK103.out⟩, ⟨by repeat (first | (with_reducible first | exact HB.out | apply below_alloc | apply pw_below_drewN | apply below_drew1 | refine below_set ?_ GE102.out | refine below_set ?_ GE103.out) | exact HB.out)⟩⟩
                    · rw [if_neg c55] at H
                      have c55b0 : (a0_2 == a1_2) = false := beq_eq_false_iff_ne.mpr c55
                      have c55b1 : (a0_2 != a1_2) = true := bne_iff_ne.mpr c55
                      have H' := Aside0.mk H
                      clear H
                      have hnb59 := NB102_103.out
                      have hnc59 := NB103_102.out
                      have hcz60_0 : wc.cell? ⟨gb102, 0, none⟩ = some (.int .i64 a0_0) := (blk_cell BK102.out 0).trans rfl
                      have hcz60_1 : wc.cell? ⟨gb102, 1, none⟩ = some (.int .i64 a0_1) := (blk_cell BK102.out 1).trans rfl
                      have hcz60_2 : wc.cell? ⟨gb102, 2, none⟩ = some (.int .i64 a0_2) := (blk_cell BK102.out 2).trans rfl
                      have hcz60_3 : wc.cell? ⟨gb102, 3, none⟩ = some (.int .i64 a0_3) := (blk_cell BK102.out 3).trans rfl
                      have hcz60_4 : wc.cell? ⟨gb102, 4, none⟩ = some (.int .i64 a0_4) := (blk_cell BK102.out 4).trans rfl
                      have hcz60_5 : wc.cell? ⟨gb102, 5, none⟩ = some (.slice A0_5 l0_5.length c0_5) := (blk_cell BK102.out 5).trans rfl
                      have hfz60_0 := blk_frozen BK102.out 0
                      have hfz60_1 := blk_frozen BK102.out 1
                      have hfz60_2 := blk_frozen BK102.out 2
                      have hfz60_3 := blk_frozen BK102.out 3
                      have hfz60_4 := blk_frozen BK102.out 4
                      have hfz60_5 := blk_frozen BK102.out 5
                      have hcz61_0 : wc.cell? ⟨gb103, 0, none⟩ = some (.int .i64 a1_0) := (blk_cell BK103.out 0).trans rfl
                      have hcz61_1 : wc.cell? ⟨gb103, 1, none⟩ = some (.int .i64 a1_1) := (blk_cell BK103.out 1).trans rfl
                      have hcz61_2 : wc.cell? ⟨gb103, 2, none⟩ = some (.int .i64 a1_2) := (blk_cell BK103.out 2).trans rfl
                      have hcz61_3 : wc.cell? ⟨gb103, 3, none⟩ = some (.int .i64 a1_3) := (blk_cell BK103.out 3).trans rfl
                      have hcz61_4 : wc.cell? ⟨gb103, 4, none⟩ = some (.int .i64 a1_4) := (blk_cell BK103.out 4).trans rfl
                      have hcz61_5 : wc.cell? ⟨gb103, 5, none⟩ = some (.slice A1_5 l1_5.length c1_5) := (blk_cell BK103.out 5).trans rfl
                      have hfz61_0 := blk_frozen BK103.out 0
                      have hfz61_1 := blk_frozen BK103.out 1
                      have hfz61_2 := blk_frozen BK103.out 2
                      have hfz61_3 := blk_frozen BK103.out 3
                      have hfz61_4 := blk_frozen BK103.out 4
                      have hfz61_5 := blk_frozen BK103.out 5
                      go_wp2
                      go_meet
                      case rel => exact ⟨_, (true), (by first | rfl | (simp; done) | (simp [*]; done)), H', ⟨by have := HJ3.out; have := HJ24.out; first | omega | exact Nat.le_refl _⟩, ⟨by (with_reducible repeat (first | refine blk_drewN ?_ _ | refine blk_drew ?_ | refine blk_alloc ?_ _)); exact BK102.out⟩, ⟨by (with_reducible repeat (first | refine blk_drewN ?_ _ | refine blk_drew ?_ | refine blk_alloc ?_ _)); exact BK103.out⟩, ⟨by repeat (first | (with_reducible first | exact HB.out | apply below_alloc | apply pw_below_drewN | apply below_drew1 | refine below_set ?_ GE102.out | refine below_set ?_ GE103.out) | exact HB.out)⟩⟩
                  · rw [if_neg c54] at H
                    have c54b0 : (a0_0 == 4) = false := beq_eq_false_iff_ne.mpr c54
                    have c54b1 : (a0_0 != 4) = true := bne_iff_ne.mpr c54
                    (first | rw [c54b0] | (simp only [i64_w, i32_w]; rw [c54b0]) | skip)
                    by_cases c62 : a0_0 = 5
                    · rw [if_pos c62] at H
                      have c62b0 : (a0_0 == 5) = true := beq_iff_eq.mpr c62
                      have c62b1 : (a0_0 != 5) = false := bne_eq_false_iff_eq.mpr c62
                      clear c62
                      by_cases c63 : a0_2 = a1_2
                      · rw [if_pos c63] at H
                        have c63b0 : (a0_2 == a1_2) = true := beq_iff_eq.mpr c63
                        have c63b1 : (a0_2 != a1_2) = false := bne_eq_false_iff_eq.mpr c63
                        clear c63
                        have H' := Aside0.mk H
                        clear H
                        have hnb64 := NB102_103.out
                        have hnc64 := NB103_102.out
                        have hcz65_0 : wc.cell? ⟨gb102, 0, none⟩ = some (.int .i64 a0_0) := (blk_cell BK102.out 0).trans rfl
                        have hcz65_1 : wc.cell? ⟨gb102, 1, none⟩ = some (.int .i64 a0_1) := (blk_cell BK102.out 1).trans rfl
                        have hcz65_2 : wc.cell? ⟨gb102, 2, none⟩ = some (.int .i64 a0_2) := (blk_cell BK102.out 2).trans rfl
                        have hcz65_3 : wc.cell? ⟨gb102, 3, none⟩ = some (.int .i64 a0_3) := (blk_cell BK102.out 3).trans rfl
                        have hcz65_4 : wc.cell? ⟨gb102, 4, none⟩ = some (.int .i64 a0_4) := (blk_cell BK102.out 4).trans rfl
                        have hcz65_5 : wc.cell? ⟨gb102, 5, none⟩ = some (.slice A0_5 l0_5.length c0_5) := (blk_cell BK102.out 5).trans rfl
                        have hfz65_0 := blk_frozen BK102.out 0
                        have hfz65_1 := blk_frozen BK102.out 1
                        have hfz65_2 := blk_frozen BK102.out 2
                        have hfz65_3 := blk_frozen BK102.out 3
                        have hfz65_4 := blk_frozen BK102.out 4
                        have hfz65_5 := blk_frozen BK102.out 5
                        have hcz66_0 : wc.cell? ⟨gb103, 0, none⟩ = some (.int .i64 a1_0) := (blk_cell BK103.out 0).trans rfl
                        have hcz66_1 : wc.cell? ⟨gb103, 1, none⟩ = some (.int .i64 a1_1) := (blk_cell BK103.out 1).trans rfl
                        have hcz66_2 : wc.cell? ⟨gb103, 2, none⟩ = some (.int .i64 a1_2) := (blk_cell BK103.out 2).trans rfl
                        have hcz66_3 : wc.cell? ⟨gb103, 3, none⟩ = some (.int .i64 a1_3) := (blk_cell BK103.out 3).trans rfl
                        have hcz66_4 : wc.cell? ⟨gb103, 4, none⟩ = some (.int .i64 a1_4) := (blk_cell BK103.out 4).trans rfl
                        have hcz66_5 : wc.cell? ⟨gb103, 5, none⟩ = some (.slice A1_5 l1_5.length c1_5) := (blk_cell BK103.out 5).trans rfl
                        have hfz66_0 := blk_frozen BK103.out 0
                        have hfz66_1 := blk_frozen BK103.out 1
                        have hfz66_2 := blk_frozen BK103.out 2
                        have hfz66_3 := blk_frozen BK103.out 3
                        have hfz66_4 := blk_frozen BK103.out 4
                        have hfz66_5 := blk_frozen BK103.out 5
                        go_wp2
                        go_meet
                        case rel => exact ⟨_, (false), (by first | rfl | (simp; done) | (simp [*]; done)), H', ⟨by have := HJ3.out; have := HJ24.out; first | omega | exact Nat.le_refl _⟩, ⟨by (with_reducible repeat (first | refine blk_drewN ?_ _ | refine blk_drew ?_ | refine blk_alloc ?_ _)); exact BK102.out⟩, ⟨by (with_reducible repeat (first | refine blk_drewN ?_ _ | refine blk_drew ?_ | refine blk_alloc ?_ _)); exact BK103.out⟩, ⟨by repeat (first | (with_reducible first | exact HB.out | apply below_alloc | apply pw_below_drewN | apply below_drew1 | refine below_set ?_ GE102.out | refine below_set ?_ GE103.out) | exact HB.out)⟩⟩
                      · rw [if_neg c63] at H
                        have c63b0 : (a0_2 == a1_2) = false := beq_eq_false_iff_ne.mpr c63
                        have c63b1 : (a0_2 != a1_2) = true := bne_iff_ne.mpr c63
                        have H' := Aside0.mk H
                        clear H
                        have hnb67 := NB102_103.out
                        have hnc67 := NB103_102.out
                        have hcz68_0 : wc.cell? ⟨gb102, 0, none⟩ = some (.int .i64 a0_0) := (blk_cell BK102.out 0).trans rfl
                        have hcz68_1 : wc.cell? ⟨gb102, 1, none⟩ = some (.int .i64 a0_1) := (blk_cell BK102.out 1).trans rfl
                        have hcz68_2 : wc.cell? ⟨gb102, 2, none⟩ = some (.int .i64 a0_2) := (blk_cell BK102.out 2).trans rfl
                        have hcz68_3 : wc.cell? ⟨gb102, 3, none⟩ = some (.int .i64 a0_3) := (blk_cell BK102.out 3).trans rfl
                        have hcz68_4 : wc.cell? ⟨gb102, 4, none⟩ = some (.int .i64 a0_4) := (blk_cell BK102.out 4).trans rfl
                        have hcz68_5 : wc.cell? ⟨gb102, 5, none⟩ = some (.slice A0_5 l0_5.length c0_5) := (blk_cell BK102.out 5).trans rfl
                        have hfz68_0 := blk_frozen BK102.out 0
                        have hfz68_1 := blk_frozen BK102.out 1
                        have hfz68_2 := blk_frozen BK102.out 2
                        have hfz68_3 := blk_frozen BK102.out 3
                        have hfz68_4 := blk_frozen BK102.out 4
                        have hfz68_5 := blk_frozen BK102.out 5
                        have hcz69_0 : wc.cell? ⟨gb103, 0, none⟩ = some (.int .i64 a1_0) := (blk_cell BK103.out 0).trans rfl
                        have hcz69_1 : wc.cell? ⟨gb103, 1, none⟩ = some (.int .i64 a1_1) := (blk_cell BK103.out 1).trans rfl
                        have hcz69_2 : wc.cell? ⟨gb103, 2, none⟩ = some (.int .i64 a1_2) := (blk_cell BK103.out 2).trans rfl
                        have hcz69_3 : wc.cell? ⟨gb103, 3, none⟩ = some (.int .i64 a1_3) := (blk_cell BK103.out 3).trans rfl
                        have hcz69_4 : wc.cell? ⟨gb103, 4, none⟩ = some (.int .i64 a1_4) := (blk_cell BK103.out 4).trans rfl
                        have hcz69_5 : wc.cell? ⟨gb103, 5, none⟩ = some (.slice A1_5 l1_5.length c1_5) := (blk_cell BK103.out 5).trans rfl
                        have hfz69_0 := blk_frozen BK103.out 0
                        have hfz69_1 := blk_frozen BK103.out 1
                        have hfz69_2 := blk_frozen BK103.out 2
                        have hfz69_3 := blk_frozen BK103.out 3
                        have hfz69_4 := blk_frozen BK103.out 4
                        have hfz69_5 := blk_frozen BK103.out 5
                        go_wp2
                        go_meet
                        case rel => exact ⟨_, (true), (by first | rfl | (simp; done) | (simp [*]; done)), H', ⟨by have := HJ3.out; have := HJ24.out; first | omega | exact Nat.le_refl _⟩, ⟨by (with_reducible repeat (first | refine blk_drewN ?_ _ | refine blk_drew ?_ | refine blk_alloc ?_ _)); exact BK102.out⟩, ⟨by (with_reducible repeat (first | refine blk_drewN ?_ _ | refine blk_drew ?_ | refine blk_alloc ?_ _)); exact BK103.out⟩, ⟨by repeat (first | (with_reducible first | exact HB.out | apply below_alloc | apply pw_below_drewN | apply below_drew1 | refine below_set ?_ GE102.out | refine below_set ?_ GE103.out) | exact HB.out)⟩⟩
                    · rw [if_neg c62] at H
                      have c62b0 : (a0_0 == 5) = false := beq_eq_false_iff_ne.mpr c62
                      have c62b1 : (a0_0 != 5) = true := bne_iff_ne.mpr c62
                      have H' := Aside0.mk H
                      clear H
                      have hnb70 := NB102_103.out
                      have hnc70 := NB103_102.out
                      have hcz71_0 : wc.cell? ⟨gb102, 0, none⟩ = some (.int .i64 a0_0) := (blk_cell BK102.out 0).trans rfl
                      have hcz71_1 : wc.cell? ⟨gb102, 1, none⟩ = some (.int .i64 a0_1) := (blk_cell BK102.out 1).trans rfl
                      have hcz71_2 : wc.cell? ⟨gb102, 2, none⟩ = some (.int .i64 a0_2) := (blk_cell BK102.out 2).trans rfl
                      have hcz71_3 : wc.cell? ⟨gb102, 3, none⟩ = some (.int .i64 a0_3) := (blk_cell BK102.out 3).trans rfl
                      have hcz71_4 : wc.cell? ⟨gb102, 4, none⟩ = some (.int .i64 a0_4) := (blk_cell BK102.out 4).trans rfl
                      have hcz71_5 : wc.cell? ⟨gb102, 5, none⟩ = some (.slice A0_5 l0_5.length c0_5) := (blk_cell BK102.out 5).trans rfl
                      have hfz71_0 := blk_frozen BK102.out 0
                      have hfz71_1 := blk_frozen BK102.out 1
                      have hfz71_2 := blk_frozen BK102.out 2
                      have hfz71_3 := blk_frozen BK102.out 3
                      have hfz71_4 := blk_frozen BK102.out 4
                      have hfz71_5 := blk_frozen BK102.out 5
                      go_wp2
                      go_meet
                      case rel => exact ⟨_, (false), (by first | rfl | (simp; done) | (simp [*]; done)), H', ⟨by have := HJ3.out; have := HJ24.out; first | omega | exact Nat.le_refl _⟩, ⟨by (with_reducible repeat (first | refine blk_drewN ?_ _ | refine blk_drew ?_ | refine blk_alloc ?_ _)); exact BK102.out⟩, ⟨by (with_reducible repeat (first | refine blk_drewN ?_ _ | refine blk_drew ?_ | refine blk_alloc ?_ _)); exact BK103.out⟩, ⟨by repeat (first | (with_reducible first | exact HB.out | apply below_alloc | apply pw_below_drewN | apply below_drew1 | refine below_set ?_ GE102.out | refine below_set ?_ GE103.out) | exact HB.out)⟩⟩
                case rest =>
                  clear HC53
                  try clear c1
                  try clear c2
                  try clear p2
                  try clear c3
                  try clear c3b0
                  try clear c3b1
                  try clear c4
                  try clear c5
                  try clear c6
                  try clear c7
                  try clear c10
                  try clear c10b0
                  try clear c10b1
                  try clear c11
                  try clear c14
                  try clear c14b0
                  try clear c14b1
                  try clear c15
                  try clear c18
                  try clear c18b0
                  try clear c18b1
                  try clear c19
                  try clear c22
                  try clear c24
                  try clear c26
                  try clear c26b0
                  try clear c26b1
                  try clear c27
                  try clear c27b0
                  try clear c27b1
                  try clear c28
                  try clear c28b0
                  try clear c28b1
                  try clear c29
                  try clear c32
                  try clear c35
                  try clear c38
                  try clear c38b0
                  try clear c38b1
                  try clear c39
                  try clear c39b0
                  try clear c39b1
                  try clear c40
                  try clear c40b0
                  try clear c40b1
                  try clear c41
                  try clear c44
                  try clear c47
                  try clear c50
                  try clear c52
                  try clear c54
                  try clear c54b0
                  try clear c54b1
                  try clear c55
                  try clear c55b0
                  try clear c55b1
                  try clear c56
                  try clear c59
                  try clear c62
                  try clear c62b0
                  try clear c62b1
                  try clear c63
                  try clear c63b0
                  try clear c63b1
                  try clear c64
                  try clear c67
                  try clear c70
                  try clear hcz12_0
                  try clear hcz12_1
                  try clear hcz12_2
                  try clear hcz12_3
                  try clear hcz12_4
                  try clear hcz12_5
                  try clear hcz13_0
                  try clear hcz13_1
                  try clear hcz13_2
                  try clear hcz13_3
                  try clear hcz13_4
                  try clear hcz13_5
                  try clear hcz16_0
                  try clear hcz16_1
                  try clear hcz16_2
                  try clear hcz16_3
                  try clear hcz16_4
                  try clear hcz16_5
                  try clear hcz17_0
                  try clear hcz17_1
                  try clear hcz17_2
                  try clear hcz17_3
                  try clear hcz17_4
                  try clear hcz17_5
                  try clear hcz20_0
                  try clear hcz20_1
                  try clear hcz20_2
                  try clear hcz20_3
                  try clear hcz20_4
                  try clear hcz20_5
                  try clear hcz21_0
                  try clear hcz21_1
                  try clear hcz21_2
                  try clear hcz21_3
                  try clear hcz21_4
                  try clear hcz21_5
                  try clear hcz23_0
                  try clear hcz23_1
                  try clear hcz23_2
                  try clear hcz23_3
                  try clear hcz23_4
                  try clear hcz23_5
                  try clear hcz30_0
                  try clear hcz30_1
                  try clear hcz30_2
                  try clear hcz30_3
                  try clear hcz30_4
                  try clear hcz30_5
                  try clear hcz31_0
                  try clear hcz31_1
                  try clear hcz31_2
                  try clear hcz31_3
                  try clear hcz31_4
                  try clear hcz31_5
                  try clear hcz33_0
                  try clear hcz33_1
                  try clear hcz33_2
                  try clear hcz33_3
                  try clear hcz33_4
                  try clear hcz33_5
                  try clear hcz34_0
                  try clear hcz34_1
                  try clear hcz34_2
                  try clear hcz34_3
                  try clear hcz34_4
                  try clear hcz34_5
                  try clear hcz36_0
                  try clear hcz36_1
                  try clear hcz36_2
                  try clear hcz36_3
                  try clear hcz36_4
                  try clear hcz36_5
                  try clear hcz37_0
                  try clear hcz37_1
                  try clear hcz37_2
                  try clear hcz37_3
                  try clear hcz37_4
                  try clear hcz37_5
                  try clear hcz42_0
                  try clear hcz42_1
                  try clear hcz42_2
                  try clear hcz42_3
                  try clear hcz42_4
                  try clear hcz42_5
                  try clear hcz43_0
                  try clear hcz43_1
                  try clear hcz43_2
                  try clear hcz43_3
                  try clear hcz43_4
                  try clear hcz43_5
                  try clear hcz45_0
                  try clear hcz45_1
                  try clear hcz45_2
                  try clear hcz45_3
                  try clear hcz45_4
                  try clear hcz45_5
                  try clear hcz46_0
                  try clear hcz46_1
                  try clear hcz46_2
                  try clear hcz46_3
                  try clear hcz46_4
                  try clear hcz46_5
                  try clear hcz48_0
                  try clear hcz48_1
                  try clear hcz48_2
                  try clear hcz48_3
                  try clear hcz48_4
                  try clear hcz48_5
                  try clear hcz49_0
                  try clear hcz49_1
                  try clear hcz49_2
                  try clear hcz49_3
                  try clear hcz49_4
                  try clear hcz49_5
                  try clear hcz51_0
                  try clear hcz51_1
                  try clear hcz51_2
                  try clear hcz51_3
                  try clear hcz51_4
                  try clear hcz51_5
                  try clear hcz57_0
                  try clear hcz57_1
                  try clear hcz57_2
                  try clear hcz57_3
                  try clear hcz57_4
                  try clear hcz57_5
                  try clear hcz58_0
                  try clear hcz58_1
                  try clear hcz58_2
                  try clear hcz58_3
                  try clear hcz58_4
                  try clear hcz58_5
                  try clear hcz60_0
                  try clear hcz60_1
                  try clear hcz60_2
                  try clear hcz60_3
                  try clear hcz60_4
                  try clear hcz60_5
                  try clear hcz61_0
                  try clear hcz61_1
                  try clear hcz61_2
                  try clear hcz61_3
                  try clear hcz61_4
                  try clear hcz61_5
                  try clear hcz65_0
                  try clear hcz65_1
                  try clear hcz65_2
                  try clear hcz65_3
                  try clear hcz65_4
                  try clear hcz65_5
                  try clear hcz66_0
                  try clear hcz66_1
                  try clear hcz66_2
                  try clear hcz66_3
                  try clear hcz66_4
                  try clear hcz66_5
                  try clear hcz68_0
                  try clear hcz68_1
                  try clear hcz68_2
                  try clear hcz68_3
                  try clear hcz68_4
                  try clear hcz68_5
                  try clear hcz69_0
                  try clear hcz69_1
                  try clear hcz69_2
                  try clear hcz69_3
                  try clear hcz69_4
                  try clear hcz69_5
                  try clear hcz71_0
                  try clear hcz71_1
                  try clear hcz71_2
                  try clear hcz71_3
                  try clear hcz71_4
                  try clear hcz71_5
                  try clear hcz8_0
                  try clear hcz8_1
                  try clear hcz8_2
                  try clear hcz8_3
                  try clear hcz8_4
                  try clear hcz8_5
                  try clear hcz9_0
                  try clear hcz9_1
                  try clear hcz9_2
                  try clear hcz9_3
                  try clear hcz9_4
                  try clear hcz9_5
                  try clear hfz12_0
                  try clear hfz12_1
                  try clear hfz12_2
                  try clear hfz12_3
                  try clear hfz12_4
                  try clear hfz12_5
                  try clear hfz13_0
                  try clear hfz13_1
                  try clear hfz13_2
                  try clear hfz13_3
                  try clear hfz13_4
                  try clear hfz13_5
                  try clear hfz16_0
                  try clear hfz16_1
                  try clear hfz16_2
                  try clear hfz16_3
                  try clear hfz16_4
                  try clear hfz16_5
                  try clear hfz17_0
                  try clear hfz17_1
                  try clear hfz17_2
                  try clear hfz17_3
                  try clear hfz17_4
                  try clear hfz17_5
                  try clear hfz20_0
                  try clear hfz20_1
                  try clear hfz20_2
                  try clear hfz20_3
                  try clear hfz20_4
                  try clear hfz20_5
                  try clear hfz21_0
                  try clear hfz21_1
                  try clear hfz21_2
                  try clear hfz21_3
                  try clear hfz21_4
                  try clear hfz21_5
                  try clear hfz23_0
                  try clear hfz23_1
                  try clear hfz23_2
                  try clear hfz23_3
                  try clear hfz23_4
                  try clear hfz23_5
                  try clear hfz30_0
                  try clear hfz30_1
                  try clear hfz30_2
                  try clear hfz30_3
                  try clear hfz30_4
                  try clear hfz30_5
                  try clear hfz31_0
                  try clear hfz31_1
                  try clear hfz31_2
                  try clear hfz31_3
                  try clear hfz31_4
                  try clear hfz31_5
                  try clear hfz33_0
                  try clear hfz33_1
                  try clear hfz33_2
                  try clear hfz33_3
                  try clear hfz33_4
                  try clear hfz33_5
                  try clear hfz34_0
                  try clear hfz34_1
                  try clear hfz34_2
                  try clear hfz34_3
                  try clear hfz34_4
                  try clear hfz34_5
                  try clear hfz36_0
                  try clear hfz36_1
                  try clear hfz36_2
                  try clear hfz36_3
                  try clear hfz36_4
                  try clear hfz36_5
                  try clear hfz37_0
                  try clear hfz37_1
                  try clear hfz37_2
                  try clear hfz37_3
                  try clear hfz37_4
                  try clear hfz37_5
                  try clear hfz42_0
                  try clear hfz42_1
                  try clear hfz42_2
                  try clear hfz42_3
                  try clear hfz42_4
                  try clear hfz42_5
                  try clear hfz43_0
                  try clear hfz43_1
                  try clear hfz43_2
                  try clear hfz43_3
                  try clear hfz43_4
                  try clear hfz43_5
                  try clear hfz45_0
                  try clear hfz45_1
                  try clear hfz45_2
                  try clear hfz45_3
                  try clear hfz45_4
                  try clear hfz45_5
                  try clear hfz46_0
                  try clear hfz46_1
                  try clear hfz46_2
                  try clear hfz46_3
                  try clear hfz46_4
                  try clear hfz46_5
                  try clear hfz48_0
                  try clear hfz48_1
                  try clear hfz48_2
                  try clear hfz48_3
                  try clear hfz48_4
                  try clear hfz48_5
                  try clear hfz49_0
                  try clear hfz49_1
                  try clear hfz49_2
                  try clear hfz49_3
                  try clear hfz49_4
                  try clear hfz49_5
                  try clear hfz51_0
                  try clear hfz51_1
                  try clear hfz51_2
                  try clear hfz51_3
                  try clear hfz51_4
                  try clear hfz51_5
                  try clear hfz57_0
                  try clear hfz57_1
                  try clear hfz57_2
                  try clear hfz57_3
                  try clear hfz57_4
                  try clear hfz57_5
                  try clear hfz58_0
                  try clear hfz58_1
                  try clear hfz58_2
                  try clear hfz58_3
                  try clear hfz58_4
                  try clear hfz58_5
                  try clear hfz60_0
                  try clear hfz60_1
                  try clear hfz60_2
                  try clear hfz60_3
                  try clear hfz60_4
                  try clear hfz60_5
                  try clear hfz61_0
                  try clear hfz61_1
                  try clear hfz61_2
                  try clear hfz61_3
                  try clear hfz61_4
                  try clear hfz61_5
                  try clear hfz65_0
                  try clear hfz65_1
                  try clear hfz65_2
                  try clear hfz65_3
                  try clear hfz65_4
                  try clear hfz65_5
                  try clear hfz66_0
                  try clear hfz66_1
                  try clear hfz66_2
                  try clear hfz66_3
                  try clear hfz66_4
                  try clear hfz66_5
                  try clear hfz68_0
                  try clear hfz68_1
                  try clear hfz68_2
                  try clear hfz68_3
                  try clear hfz68_4
                  try clear hfz68_5
                  try clear hfz69_0
                  try clear hfz69_1
                  try clear hfz69_2
                  try clear hfz69_3
                  try clear hfz69_4
                  try clear hfz69_5
                  try clear hfz71_0
                  try clear hfz71_1
                  try clear hfz71_2
                  try clear hfz71_3
                  try clear hfz71_4
                  try clear hfz71_5
                  try clear hfz8_0
                  try clear hfz8_1
                  try clear hfz8_2
                  try clear hfz8_3
                  try clear hfz8_4
                  try clear hfz8_5
                  try clear hfz9_0
                  try clear hfz9_1
                  try clear hfz9_2
                  try clear hfz9_3
                  try clear hfz9_4
                  try clear hfz9_5
                  try clear p2
                  obtain ⟨kq, x89_52, rfl, HA, HJ52, BK102, BK103, HB⟩ := hcut
                  cases kq with
                  | zero => exact absurd HA.out (by simp [passepartoutref04_Same.j2])
                  | succ kj52 =>
                    have H := HA.out
                    clear HA
                    simp only [passepartoutref04_Same.j2] at H
                    by_cases c72 : x89_52 = true
                    · subst c72
                      have H1 : (some false) = some r := by rw [if_pos rfl] at H; exact H
                      clear H
                      have H := H1
                      clear H1
                      obtain rfl := Option.some.inj H
                      go_wp2
                      go_ret
                      exact ⟨by first | rfl | (simp [errW_none, errW_some] <;> rfl) | (simp [*, errW_none, errW_some] <;> rfl), by repeat (first | (with_reducible first | exact HB.out | apply below_alloc | apply pw_below_drewN | apply below_drew1 | refine below_set ?_ GE102.out | refine below_set ?_ GE103.out) | exact HB.out)⟩
                    · replace c72 := Bool.eq_false_iff.mpr c72
                      subst c72
                      have H1 : ((passepartoutref04_parts.f a0_0 a0_1 a0_2 a0_3 a0_4 l0_5).bind fun t104 => ((passepartoutref04_parts.f a1_0 a1_1 a1_2 a1_3 a1_4 l1_5).bind fun t107 => (if (t104.length : Int) = (t107.length : Int) then (passepartoutref04_Same.l0 kj52 t104 t107 0) else (some false)))) = some r := by rw [if_neg (show ¬ (false = true) by decide)] at H; exact H
                      clear H
                      have H := H1
                      clear H1
                      replace H := Option.bind_eq_some_iff.mp H
                      obtain ⟨t104, A730, H⟩ := H
                      replace H : ((passepartoutref04_parts.f a1_0 a1_1 a1_2 a1_3 a1_4 l1_5).bind fun t107 => (if (t104.length : Int) = (t107.length : Int) then (passepartoutref04_Same.l0 kj52 t104 t107 0) else (some false))) = some r := H
                      have A73 := Aside0.mk A730
                      clear A730
                      replace H := Option.bind_eq_some_iff.mp H
                      obtain ⟨t107, A740, H⟩ := H
                      replace H : (if (t104.length : Int) = (t107.length : Int) then (passepartoutref04_Same.l0 kj52 t104 t107 0) else (some false)) = some r := H
                      have A74 := Aside0.mk A740
                      clear A740
                      by_cases c75 : (t104.length : Int) = (t107.length : Int)
                      · rw [if_pos c75] at H
                        have c75b0 : ((t104.length : Int) == (t107.length : Int)) = true := beq_iff_eq.mpr c75
                        have c75b1 : ((t104.length : Int) != (t107.length : Int)) = false := bne_eq_false_iff_eq.mpr c75
                        have c75b2 : (t104.length == t107.length) = true := by first | simpa using c75 | (simp at c75 ⊢; omega)
                        clear c75
                        have H' := Aside0.mk H
                        clear H
                        have hnb76 := NB102_103.out
                        have hnc76 := NB103_102.out
                        have hcz77_0 : wc.cell? ⟨gb102, 0, none⟩ = some (.int .i64 a0_0) := (blk_cell BK102.out 0).trans rfl
                        have hcz77_1 : wc.cell? ⟨gb102, 1, none⟩ = some (.int .i64 a0_1) := (blk_cell BK102.out 1).trans rfl
                        have hcz77_2 : wc.cell? ⟨gb102, 2, none⟩ = some (.int .i64 a0_2) := (blk_cell BK102.out 2).trans rfl
                        have hcz77_3 : wc.cell? ⟨gb102, 3, none⟩ = some (.int .i64 a0_3) := (blk_cell BK102.out 3).trans rfl
                        have hcz77_4 : wc.cell? ⟨gb102, 4, none⟩ = some (.int .i64 a0_4) := (blk_cell BK102.out 4).trans rfl
                        have hcz77_5 : wc.cell? ⟨gb102, 5, none⟩ = some (.slice A0_5 l0_5.length c0_5) := (blk_cell BK102.out 5).trans rfl
                        have hfz77_0 := blk_frozen BK102.out 0
                        have hfz77_1 := blk_frozen BK102.out 1
                        have hfz77_2 := blk_frozen BK102.out 2
                        have hfz77_3 := blk_frozen BK102.out 3
                        have hfz77_4 := blk_frozen BK102.out 4
                        have hfz77_5 := blk_frozen BK102.out 5
                        go_wp2_with (first | ((with_reducible refine gate_callee (f := 30) rfl ?_); refine goesL_ (some 91) rfl rfl Try.func30 (by kernel_rfl) rfl #[.agg #[.int .i64 a0_0, .int .i64 a0_1, .int .i64 a0_2, .int .i64 a0_3, .int .i64 a0_4, .slice A0_5 l0_5.length c0_5]] rfl (by (try simp only [List.map_toArray, List.map_cons, List.map_nil]); first | done | rfl | (simp only [List.length_drop, List.length_take]; rfl)) ?_; (with_reducible refine (passepartoutref04_parts.calls a0_0 a0_1 a0_2 a0_3 a0_4 (fun k_ => k_ < w.heap.size) _ _ l0_5 t104 _ ?side1 A73.out).mono ?_); (case side1 => exact Kd.V_mk HC0_5.out (Kd.F_below (Kd.C_F k24_heap HR0_5.out) (by repeat (first | (with_reducible first | exact HB.out | apply below_alloc | apply pw_below_drewN | apply below_drew1 | refine below_set ?_ GE102.out | refine below_set ?_ GE103.out) | exact HB.out)))); rintro e w78 ⟨v105, rfl, ho0, hb⟩; refine ⟨_, rfl, ?_⟩; have n0_ := Aside0.mk (Kd.V_lower (Kd.V_mono (ok' := fun k_ => k_ ≠ gb102 ∧ k_ ≠ gb103) ho0 (fun k_ hk_ => ⟨Or.elim hk_ (fun hs_ => fun e_ => Nat.not_le.2 hs_ (by rw [e_]; exact GW102.out)) (fun hn_ => (Kd.freshB (g := gb102) (o := .cells #[.int .i64 a0_0, .int .i64 a0_1, .int .i64 a0_2, .int .i64 a0_3, .int .i64 a0_4, .slice A0_5 l0_5.length c0_5] 24 (0, 0)) (by (with_reducible repeat (first | refine blk_drewN ?_ _ | refine blk_drew ?_ | refine blk_alloc ?_ _)); exact BK102.out) k_ hn_)), Or.elim hk_ (fun hs_ => fun e_ => Nat.not_le.2 hs_ (by rw [e_]; exact GW103.out)) (fun hn_ => (Kd.freshB (g := gb103) (o := .cells #[.int .i64 a1_0, .int .i64 a1_1, .int .i64 a1_2, .int .i64 a1_3, .int .i64 a1_4, .slice A1_5 l1_5.length c1_5] 24 (0, 0)) (by (with_reducible repeat (first | refine blk_drewN ?_ _ | refine blk_drew ?_ | refine blk_alloc ?_ _)); exact BK103.out) k_ hn_))⟩)) (below_size (by repeat (first | (with_reducible first | exact HB.out | apply below_alloc | apply pw_below_drewN | apply below_drew1 | refine below_set ?_ GE102.out | refine below_set ?_ GE103.out) | exact HB.out)))); have n1_ := Aside0.mk (blk_below (g := gb102) (o := .cells #[.int .i64 a0_0, .int .i64 a0_1, .int .i64 a0_2, .int .i64 a0_3, .int .i64 a0_4, .slice A0_5 l0_5.length c0_5] 24 (0, 0)) (by (with_reducible repeat (first | refine blk_drewN ?_ _ | refine blk_drew ?_ | refine blk_alloc ?_ _)); exact BK102.out) hb); have n2_ := Aside0.mk (blk_below (g := gb103) (o := .cells #[.int .i64 a1_0, .int .i64 a1_1, .int .i64 a1_2, .int .i64 a1_3, .int .i64 a1_4, .slice A1_5 l1_5.length c1_5] 24 (0, 0)) (by (with_reducible repeat (first | refine blk_drewN ?_ _ | refine blk_drew ?_ | refine blk_alloc ?_ _)); exact BK103.out) hb); have n3_ := Aside0.mk (below_step (by repeat (first | (with_reducible first | exact HB.out | apply below_alloc | apply pw_below_drewN | apply below_drew1 | refine below_set ?_ GE102.out | refine below_set ?_ GE103.out) | exact HB.out)) hb); clear BK102; clear BK103; clear HB; have HO106 := n0_; have BK102 := n1_; have BK103 := n2_; have HB := n3_; clear n0_ n1_ n2_ n3_; (try clear hb); (try clear hb2); (try clear hk); (try clear hi); (try clear ho0); have hcz79_0 : w78.cell? ⟨gb103, 0, none⟩ = some (.int .i64 a1_0) := (blk_cell BK103.out 0).trans rfl; have hcz79_1 : w78.cell? ⟨gb103, 1, none⟩ = some (.int .i64 a1_1) := (blk_cell BK103.out 1).trans rfl; have hcz79_2 : w78.cell? ⟨gb103, 2, none⟩ = some (.int .i64 a1_2) := (blk_cell BK103.out 2).trans rfl; have hcz79_3 : w78.cell? ⟨gb103, 3, none⟩ = some (.int .i64 a1_3) := (blk_cell BK103.out 3).trans rfl; have hcz79_4 : w78.cell? ⟨gb103, 4, none⟩ = some (.int .i64 a1_4) := (blk_cell BK103.out 4).trans rfl; have hcz79_5 : w78.cell? ⟨gb103, 5, none⟩ = some (.slice A1_5 l1_5.length c1_5) := (blk_cell BK103.out 5).trans rfl; have hfz79_0 := blk_frozen BK103.out 0; have hfz79_1 := blk_frozen BK103.out 1; have hfz79_2 := blk_frozen BK103.out 2; have hfz79_3 := blk_frozen BK103.out 3; have hfz79_4 := blk_frozen BK103.out 4; have hfz79_5 := blk_frozen BK103.out 5) | ((with_reducible refine gate_callee (f := 30) rfl ?_); refine goesL_ (some 93) rfl rfl Try.func30 (by kernel_rfl) rfl #[.agg #[.int .i64 a1_0, .int .i64 a1_1, .int .i64 a1_2, .int .i64 a1_3, .int .i64 a1_4, .slice A1_5 l1_5.length c1_5]] rfl (by (try simp only [List.map_toArray, List.map_cons, List.map_nil]); first | done | rfl | (simp only [List.length_drop, List.length_take]; rfl)) ?_; (with_reducible refine (passepartoutref04_parts.calls a1_0 a1_1 a1_2 a1_3 a1_4 (fun k_ => k_ < w.heap.size) _ _ l1_5 t107 _ ?side1 A74.out).mono ?_); (case side1 => exact Kd.V_mk HC1_5.out (Kd.F_below (Kd.C_F k24_heap HR1_5.out) (by repeat (first | (with_reducible first | exact HB.out | apply below_alloc | apply pw_below_drewN | apply below_drew1 | refine below_set ?_ GE102.out | refine below_set ?_ GE103.out) | exact HB.out)))); rintro e w80 ⟨v108, rfl, ho0, hb⟩; refine ⟨_, rfl, ?_⟩; have n0_ := Aside0.mk (Kd.V_below (by (with_reducible repeat (first | apply Kd.V_alloc | apply Kd.V_drewN | apply Kd.V_drew)); exact HO106.out) hb); have n1_ := Aside0.mk (Kd.V_lower (Kd.V_mono (ok' := fun k_ => k_ ≠ gb102 ∧ k_ ≠ gb103) ho0 (fun k_ hk_ => ⟨Or.elim hk_ (fun hs_ => fun e_ => Nat.not_le.2 hs_ (by rw [e_]; exact GW102.out)) (fun hn_ => (Kd.freshB (g := gb102) (o := .cells #[.int .i64 a0_0, .int .i64 a0_1, .int .i64 a0_2, .int .i64 a0_3, .int .i64 a0_4, .slice A0_5 l0_5.length c0_5] 24 (0, 0)) (by (with_reducible repeat (first | refine blk_drewN ?_ _ | refine blk_drew ?_ | refine blk_alloc ?_ _)); exact BK102.out) k_ hn_)), Or.elim hk_ (fun hs_ => fun e_ => Nat.not_le.2 hs_ (by rw [e_]; exact GW103.out)) (fun hn_ => (Kd.freshB (g := gb103) (o := .cells #[.int .i64 a1_0, .int .i64 a1_1, .int .i64 a1_2, .int .i64 a1_3, .int .i64 a1_4, .slice A1_5 l1_5.length c1_5] 24 (0, 0)) (by (with_reducible repeat (first | refine blk_drewN ?_ _ | refine blk_drew ?_ | refine blk_alloc ?_ _)); exact BK103.out) k_ hn_))⟩)) (below_size (by repeat (first | (with_reducible first | exact HB.out | apply below_alloc | apply pw_below_drewN | apply below_drew1 | refine below_set ?_ GE102.out | refine below_set ?_ GE103.out) | exact HB.out)))); have n2_ := Aside0.mk (blk_below (g := gb102) (o := .cells #[.int .i64 a0_0, .int .i64 a0_1, .int .i64 a0_2, .int .i64 a0_3, .int .i64 a0_4, .slice A0_5 l0_5.length c0_5] 24 (0, 0)) (by (with_reducible repeat (first | refine blk_drewN ?_ _ | refine blk_drew ?_ | refine blk_alloc ?_ _)); exact BK102.out) hb); have n3_ := Aside0.mk (blk_below (g := gb103) (o := .cells #[.int .i64 a1_0, .int .i64 a1_1, .int .i64 a1_2, .int .i64 a1_3, .int .i64 a1_4, .slice A1_5 l1_5.length c1_5] 24 (0, 0)) (by (with_reducible repeat (first | refine blk_drewN ?_ _ | refine blk_drew ?_ | refine blk_alloc ?_ _)); exact BK103.out) hb); have n4_ := Aside0.mk (below_step (by repeat (first | (with_reducible first | exact HB.out | apply below_alloc | apply pw_below_drewN | apply below_drew1 | refine below_set ?_ GE102.out | refine below_set ?_ GE103.out) | exact HB.out)) hb); clear HO106; clear BK102; clear BK103; clear HB; have HO106 := n0_; have HO109 := n1_; have BK102 := n2_; have BK103 := n3_; have HB := n4_; clear n0_ n1_ n2_ n3_ n4_; (try clear hb); (try clear hb2); (try clear hk); (try clear hi); (try clear ho0); obtain ⟨Ao81, co81, eo81⟩ := Kd.V_slice HO106.out; subst eo81; obtain ⟨Ao82, co82, eo82⟩ := Kd.V_slice HO109.out; subst eo82))
                        go_loopg [7] kj52 (fun kq v7 w' => ∃ (x7_4 : Int), v7 = .int .i64 x7_4 ∧ Aside0 (passepartoutref04_Same.l0 kq t104 t107 x7_4 = some r) ∧ Aside0 (kq ≤ kj52) ∧ Aside0 (Kd.V k24 24 w' w.heap.size (fun k_ => k_ ≠ gb102 ∧ k_ ≠ gb103) (.slice Ao81 t104.length co81) t104) ∧ Aside0 (Kd.V k24 24 w' w.heap.size (fun k_ => k_ ≠ gb102 ∧ k_ ≠ gb103) (.slice Ao82 t107.length co82) t107) ∧ Aside0 (w'.heap[gb102]? = some (.cells #[.int .i64 a0_0, .int .i64 a0_1, .int .i64 a0_2, .int .i64 a0_3, .int .i64 a0_4, (.slice A0_5 l0_5.length c0_5)] 24 (0, 0))) ∧ Aside0 (w'.heap[gb103]? = some (.cells #[.int .i64 a1_0, .int .i64 a1_1, .int .i64 a1_2, .int .i64 a1_3, .int .i64 a1_4, (.slice A1_5 l1_5.length c1_5)] 24 (0, 0))) ∧ Aside0 (Below w.heap.size w w'))
                        case atStart => exact ⟨(0), (by first | rfl | (simp; done) | (simp [*]; done)), H', ⟨Nat.le_refl _⟩, ⟨by (with_reducible repeat (first | apply Kd.V_alloc | apply Kd.V_drewN | apply Kd.V_drew)); exact HO106.out⟩, ⟨by (with_reducible repeat (first | apply Kd.V_alloc | apply Kd.V_drewN | apply Kd.V_drew)); exact HO109.out⟩, ⟨by (with_reducible repeat (first | refine blk_drewN ?_ _ | refine blk_drew ?_ | refine blk_alloc ?_ _)); exact BK102.out⟩, ⟨by (with_reducible repeat (first | refine blk_drewN ?_ _ | refine blk_drew ?_ | refine blk_alloc ?_ _)); exact BK103.out⟩, ⟨by repeat (first | (with_reducible first | exact HB.out | apply below_alloc | apply pw_below_drewN | apply below_drew1 | refine below_set ?_ GE102.out | refine below_set ?_ GE103.out) | exact HB.out)⟩⟩
                        case round =>
                          clear H'
                          try clear c1
                          try clear c2
                          try clear p2
                          try clear c3
                          try clear c3b0
                          try clear c3b1
                          try clear c4
                          try clear c5
                          try clear c6
                          try clear c7
                          try clear c10
                          try clear c10b0
                          try clear c10b1
                          try clear c11
                          try clear c14
                          try clear c14b0
                          try clear c14b1
                          try clear c15
                          try clear c18
                          try clear c18b0
                          try clear c18b1
                          try clear c19
                          try clear c22
                          try clear c24
                          try clear c26
                          try clear c26b0
                          try clear c26b1
                          try clear c27
                          try clear c27b0
                          try clear c27b1
                          try clear c28
                          try clear c28b0
                          try clear c28b1
                          try clear c29
                          try clear c30
                          try clear c32
                          try clear c35
                          try clear c38
                          try clear c38b0
                          try clear c38b1
                          try clear c39
                          try clear c39b0
                          try clear c39b1
                          try clear c40
                          try clear c40b0
                          try clear c40b1
                          try clear c41
                          try clear c44
                          try clear c47
                          try clear c50
                          try clear c52
                          try clear c54
                          try clear c54b0
                          try clear c54b1
                          try clear c55
                          try clear c55b0
                          try clear c55b1
                          try clear c56
                          try clear c59
                          try clear c62
                          try clear c62b0
                          try clear c62b1
                          try clear c63
                          try clear c63b0
                          try clear c63b1
                          try clear c64
                          try clear c67
                          try clear c70
                          try clear c72
                          try clear c75
                          try clear c75b0
                          try clear c75b1
                          try clear c75b2
                          try clear c76
                          try clear hcz12_0
                          try clear hcz12_1
                          try clear hcz12_2
                          try clear hcz12_3
                          try clear hcz12_4
                          try clear hcz12_5
                          try clear hcz13_0
                          try clear hcz13_1
                          try clear hcz13_2
                          try clear hcz13_3
                          try clear hcz13_4
                          try clear hcz13_5
                          try clear hcz16_0
                          try clear hcz16_1
                          try clear hcz16_2
                          try clear hcz16_3
                          try clear hcz16_4
                          try clear hcz16_5
                          try clear hcz17_0
                          try clear hcz17_1
                          try clear hcz17_2
                          try clear hcz17_3
                          try clear hcz17_4
                          try clear hcz17_5
                          try clear hcz20_0
                          try clear hcz20_1
                          try clear hcz20_2
                          try clear hcz20_3
                          try clear hcz20_4
                          try clear hcz20_5
                          try clear hcz21_0
                          try clear hcz21_1
                          try clear hcz21_2
                          try clear hcz21_3
                          try clear hcz21_4
                          try clear hcz21_5
                          try clear hcz23_0
                          try clear hcz23_1
                          try clear hcz23_2
                          try clear hcz23_3
                          try clear hcz23_4
                          try clear hcz23_5
                          try clear hcz30_0
                          try clear hcz30_1
                          try clear hcz30_2
                          try clear hcz30_3
                          try clear hcz30_4
                          try clear hcz30_5
                          try clear hcz31_0
                          try clear hcz31_1
                          try clear hcz31_2
                          try clear hcz31_3
                          try clear hcz31_4
                          try clear hcz31_5
                          try clear hcz33_0
                          try clear hcz33_1
                          try clear hcz33_2
                          try clear hcz33_3
                          try clear hcz33_4
                          try clear hcz33_5
                          try clear hcz34_0
                          try clear hcz34_1
                          try clear hcz34_2
                          try clear hcz34_3
                          try clear hcz34_4
                          try clear hcz34_5
                          try clear hcz36_0
                          try clear hcz36_1
                          try clear hcz36_2
                          try clear hcz36_3
                          try clear hcz36_4
                          try clear hcz36_5
                          try clear hcz37_0
                          try clear hcz37_1
                          try clear hcz37_2
                          try clear hcz37_3
                          try clear hcz37_4
                          try clear hcz37_5
                          try clear hcz42_0
                          try clear hcz42_1
                          try clear hcz42_2
                          try clear hcz42_3
                          try clear hcz42_4
                          try clear hcz42_5
                          try clear hcz43_0
                          try clear hcz43_1
                          try clear hcz43_2
                          try clear hcz43_3
                          try clear hcz43_4
                          try clear hcz43_5
                          try clear hcz45_0
                          try clear hcz45_1
                          try clear hcz45_2
                          try clear hcz45_3
                          try clear hcz45_4
                          try clear hcz45_5
                          try clear hcz46_0
                          try clear hcz46_1
                          try clear hcz46_2
                          try clear hcz46_3
                          try clear hcz46_4
                          try clear hcz46_5
                          try clear hcz48_0
                          try clear hcz48_1
                          try clear hcz48_2
                          try clear hcz48_3
                          try clear hcz48_4
                          try clear hcz48_5
                          try clear hcz49_0
                          try clear hcz49_1
                          try clear hcz49_2
                          try clear hcz49_3
                          try clear hcz49_4
                          try clear hcz49_5
                          try clear hcz51_0
                          try clear hcz51_1
                          try clear hcz51_2
                          try clear hcz51_3
                          try clear hcz51_4
                          try clear hcz51_5
                          try clear hcz57_0
                          try clear hcz57_1
                          try clear hcz57_2
                          try clear hcz57_3
                          try clear hcz57_4
                          try clear hcz57_5
                          try clear hcz58_0
                          try clear hcz58_1
                          try clear hcz58_2
                          try clear hcz58_3
                          try clear hcz58_4
                          try clear hcz58_5
                          try clear hcz60_0
                          try clear hcz60_1
                          try clear hcz60_2
                          try clear hcz60_3
                          try clear hcz60_4
                          try clear hcz60_5
                          try clear hcz61_0
                          try clear hcz61_1
                          try clear hcz61_2
                          try clear hcz61_3
                          try clear hcz61_4
                          try clear hcz61_5
                          try clear hcz65_0
                          try clear hcz65_1
                          try clear hcz65_2
                          try clear hcz65_3
                          try clear hcz65_4
                          try clear hcz65_5
                          try clear hcz66_0
                          try clear hcz66_1
                          try clear hcz66_2
                          try clear hcz66_3
                          try clear hcz66_4
                          try clear hcz66_5
                          try clear hcz68_0
                          try clear hcz68_1
                          try clear hcz68_2
                          try clear hcz68_3
                          try clear hcz68_4
                          try clear hcz68_5
                          try clear hcz69_0
                          try clear hcz69_1
                          try clear hcz69_2
                          try clear hcz69_3
                          try clear hcz69_4
                          try clear hcz69_5
                          try clear hcz71_0
                          try clear hcz71_1
                          try clear hcz71_2
                          try clear hcz71_3
                          try clear hcz71_4
                          try clear hcz71_5
                          try clear hcz77_0
                          try clear hcz77_1
                          try clear hcz77_2
                          try clear hcz77_3
                          try clear hcz77_4
                          try clear hcz77_5
                          try clear hcz79_0
                          try clear hcz79_1
                          try clear hcz79_2
                          try clear hcz79_3
                          try clear hcz79_4
                          try clear hcz79_5
                          try clear hcz8_0
                          try clear hcz8_1
                          try clear hcz8_2
                          try clear hcz8_3
                          try clear hcz8_4
                          try clear hcz8_5
                          try clear hcz9_0
                          try clear hcz9_1
                          try clear hcz9_2
                          try clear hcz9_3
                          try clear hcz9_4
                          try clear hcz9_5
                          try clear hfz12_0
                          try clear hfz12_1
                          try clear hfz12_2
                          try clear hfz12_3
                          try clear hfz12_4
                          try clear hfz12_5
                          try clear hfz13_0
                          try clear hfz13_1
                          try clear hfz13_2
                          try clear hfz13_3
                          try clear hfz13_4
                          try clear hfz13_5
                          try clear hfz16_0
                          try clear hfz16_1
                          try clear hfz16_2
                          try clear hfz16_3
                          try clear hfz16_4
                          try clear hfz16_5
                          try clear hfz17_0
                          try clear hfz17_1
                          try clear hfz17_2
                          try clear hfz17_3
                          try clear hfz17_4
                          try clear hfz17_5
                          try clear hfz20_0
                          try clear hfz20_1
                          try clear hfz20_2
                          try clear hfz20_3
                          try clear hfz20_4
                          try clear hfz20_5
                          try clear hfz21_0
                          try clear hfz21_1
                          try clear hfz21_2
                          try clear hfz21_3
                          try clear hfz21_4
                          try clear hfz21_5
                          try clear hfz23_0
                          try clear hfz23_1
                          try clear hfz23_2
                          try clear hfz23_3
                          try clear hfz23_4
                          try clear hfz23_5
                          try clear hfz30_0
                          try clear hfz30_1
                          try clear hfz30_2
                          try clear hfz30_3
                          try clear hfz30_4
                          try clear hfz30_5
                          try clear hfz31_0
                          try clear hfz31_1
                          try clear hfz31_2
                          try clear hfz31_3
                          try clear hfz31_4
                          try clear hfz31_5
                          try clear hfz33_0
                          try clear hfz33_1
                          try clear hfz33_2
                          try clear hfz33_3
                          try clear hfz33_4
                          try clear hfz33_5
                          try clear hfz34_0
                          try clear hfz34_1
                          try clear hfz34_2
                          try clear hfz34_3
                          try clear hfz34_4
                          try clear hfz34_5
                          try clear hfz36_0
                          try clear hfz36_1
                          try clear hfz36_2
                          try clear hfz36_3
                          try clear hfz36_4
                          try clear hfz36_5
                          try clear hfz37_0
                          try clear hfz37_1
                          try clear hfz37_2
                          try clear hfz37_3
                          try clear hfz37_4
                          try clear hfz37_5
                          try clear hfz42_0
                          try clear hfz42_1
                          try clear hfz42_2
                          try clear hfz42_3
                          try clear hfz42_4
                          try clear hfz42_5
                          try clear hfz43_0
                          try clear hfz43_1
                          try clear hfz43_2
                          try clear hfz43_3
                          try clear hfz43_4
                          try clear hfz43_5
                          try clear hfz45_0
                          try clear hfz45_1
                          try clear hfz45_2
                          try clear hfz45_3
                          try clear hfz45_4
                          try clear hfz45_5
                          try clear hfz46_0
                          try clear hfz46_1
                          try clear hfz46_2
                          try clear hfz46_3
                          try clear hfz46_4
                          try clear hfz46_5
                          try clear hfz48_0
                          try clear hfz48_1
                          try clear hfz48_2
                          try clear hfz48_3
                          try clear hfz48_4
                          try clear hfz48_5
                          try clear hfz49_0
                          try clear hfz49_1
                          try clear hfz49_2
                          try clear hfz49_3
                          try clear hfz49_4
                          try clear hfz49_5
                          try clear hfz51_0
                          try clear hfz51_1
                          try clear hfz51_2
                          try clear hfz51_3
                          try clear hfz51_4
                          try clear hfz51_5
                          try clear hfz57_0
                          try clear hfz57_1
                          try clear hfz57_2
                          try clear hfz57_3
                          try clear hfz57_4
                          try clear hfz57_5
                          try clear hfz58_0
                          try clear hfz58_1
                          try clear hfz58_2
                          try clear hfz58_3
                          try clear hfz58_4
                          try clear hfz58_5
                          try clear hfz60_0
                          try clear hfz60_1
                          try clear hfz60_2
                          try clear hfz60_3
                          try clear hfz60_4
                          try clear hfz60_5
                          try clear hfz61_0
                          try clear hfz61_1
                          try clear hfz61_2
                          try clear hfz61_3
                          try clear hfz61_4
                          try clear hfz61_5
                          try clear hfz65_0
                          try clear hfz65_1
                          try clear hfz65_2
                          try clear hfz65_3
                          try clear hfz65_4
                          try clear hfz65_5
                          try clear hfz66_0
                          try clear hfz66_1
                          try clear hfz66_2
                          try clear hfz66_3
                          try clear hfz66_4
                          try clear hfz66_5
                          try clear hfz68_0
                          try clear hfz68_1
                          try clear hfz68_2
                          try clear hfz68_3
                          try clear hfz68_4
                          try clear hfz68_5
                          try clear hfz69_0
                          try clear hfz69_1
                          try clear hfz69_2
                          try clear hfz69_3
                          try clear hfz69_4
                          try clear hfz69_5
                          try clear hfz71_0
                          try clear hfz71_1
                          try clear hfz71_2
                          try clear hfz71_3
                          try clear hfz71_4
                          try clear hfz71_5
                          try clear hfz77_0
                          try clear hfz77_1
                          try clear hfz77_2
                          try clear hfz77_3
                          try clear hfz77_4
                          try clear hfz77_5
                          try clear hfz79_0
                          try clear hfz79_1
                          try clear hfz79_2
                          try clear hfz79_3
                          try clear hfz79_4
                          try clear hfz79_5
                          try clear hfz8_0
                          try clear hfz8_1
                          try clear hfz8_2
                          try clear hfz8_3
                          try clear hfz8_4
                          try clear hfz8_5
                          try clear hfz9_0
                          try clear hfz9_1
                          try clear hfz9_2
                          try clear hfz9_3
                          try clear hfz9_4
                          try clear hfz9_5
                          try clear p2
                          obtain ⟨x7_4, rfl, HA, HK4, HO_5, HO_6, BK102, BK103, HB⟩ := hrel
                          cases gk with
                          | zero => exact absurd HA.out (by simp [passepartoutref04_Same.l0])
                          | succ k4 =>
                            have H := HA.out
                            clear HA
                            simp only [passepartoutref04_Same.l0] at H
                            by_cases c83 : x7_4 < (t104.length : Int)
                            · rw [if_pos c83] at H
                              have c83b0 : decide (x7_4 < (t104.length : Int)) = true := decide_eq_true c83
                              clear c83
                              by_cases c84 : 0 ≤ x7_4
                              · rw [if_pos c84] at H
                                have c84b0 : decide (0 ≤ x7_4) = true := decide_eq_true c84
                                clear c84
                                by_cases c85 : x7_4 < (t107.length : Int)
                                · rw [if_pos c85] at H
                                  have c85b0 : decide (x7_4 < (t107.length : Int)) = true := decide_eq_true c85
                                  clear c85
                                  replace H := Option.bind_eq_some_iff.mp H
                                  obtain ⟨t112, A860, H⟩ := H
                                  replace H : (if t112 = true then (passepartoutref04_Same.l0 k4 t104 t107 (wrap64 (x7_4 + 1))) else (some false)) = some r := H
                                  have A86 := Aside0.mk A860
                                  clear A860
                                  by_cases c87 : t112 = true
                                  · subst c87
                                    have H1 : (passepartoutref04_Same.l0 k4 t104 t107 (wrap64 (x7_4 + 1))) = some r := by rw [if_pos rfl] at H; exact H
                                    clear H
                                    have H := H1
                                    clear H1
                                    have H' := Aside0.mk H
                                    clear H
                                    try go_wp2
                                    have n0_ := Aside0.mk (Kd.V_drew HO_5.out)
                                    have n1_ := Aside0.mk (Kd.V_drew HO_6.out)
                                    have n2_ := Aside0.mk (blk_drew BK102.out)
                                    have n3_ := Aside0.mk (blk_drew BK103.out)
                                    have n4_ := Aside0.mk (below_drew1 HB.out)
                                    clear HO_5
                                    clear HO_6
                                    clear BK102
                                    clear BK103
                                    clear HB
                                    have HO_5 := n0_
                                    have HO_6 := n1_
                                    have BK102 := n2_
                                    have BK103 := n3_
                                    have HB := n4_
                                    clear n0_ n1_ n2_ n3_ n4_
                                    have p110 : 0 ≤ (x7_4 : Int) := of_decide_eq_true (by first | (with_reducible assumption) | assumption)
                                    have q110 : x7_4 < (t104.length : Int) := of_decide_eq_true (by first | (with_reducible assumption) | assumption)
                                    obtain ⟨ad110, A110_5, c110_5, e110, hx110_0, hx110_1, hx110_2, hx110_3, hx110_4, hx110_5, hl110_5, hi110_5⟩ := at_T24 (Kd.V_reads' HO_5.out).2.2 x7_4 p110 q110
                                    cases e110
                                    obtain ⟨ce110, hce110, hMe110, hcc110⟩ := Kd.V_get HO_5.out z24 x7_4 p110 (by first | exact q110 | exact of_decide_eq_true (by first | (with_reducible assumption) | assumption) | (have e_ := (Kd.V_reads' HO_5.out).1; omega))
                                    obtain ⟨ua110_5, uc110_5, rfl, ul110_5, ge110_5⟩ := k24_openF hMe110
                                    have hv110_5 := hcc110 5 _ rfl
                                    rw [add_field _ _ 5 (by omega)] at hv110_5
                                    replace hv110_5 := Option.some.inj (hv110_5.symm.trans hx110_5)
                                    injection hv110_5 with hva_ hvn_ hvc_
                                    rw [hva_] at ge110_5
                                    rw [hvc_] at ul110_5
                                    have HL110_5 := Aside0.mk (show Kd.V k24 24 _ w.heap.size _ _ ((rd_T24 t104 x7_4).f5) from Kd.V_mk ul110_5 ge110_5)
                                    clear hva_ hvn_ hvc_ ge110_5 ul110_5
                                    clear hcc110 hce110
                                    have HR110_5 := Aside0.mk hi110_5
                                    have HC110_5 := Aside0.mk hl110_5
                                    clear hi110_5 hl110_5
                                    replace p110 := eq_true p110
                                    replace q110 := eq_true q110
                                    have p111 : 0 ≤ (x7_4 : Int) := of_decide_eq_true (by first | (with_reducible assumption) | assumption)
                                    have q111 : x7_4 < (t107.length : Int) := of_decide_eq_true (by first | (with_reducible assumption) | assumption)
                                    obtain ⟨ad111, A111_5, c111_5, e111, hx111_0, hx111_1, hx111_2, hx111_3, hx111_4, hx111_5, hl111_5, hi111_5⟩ := at_T24 (Kd.V_reads' HO_6.out).2.2 x7_4 p111 q111
                                    cases e111
                                    obtain ⟨ce111, hce111, hMe111, hcc111⟩ := Kd.V_get HO_6.out z24 x7_4 p111 (by first | exact q111 | exact of_decide_eq_true (by first | (with_reducible assumption) | assumption) | (have e_ := (Kd.V_reads' HO_6.out).1; omega))
                                    obtain ⟨ua111_5, uc111_5, rfl, ul111_5, ge111_5⟩ := k24_openF hMe111
                                    have hv111_5 := hcc111 5 _ rfl
                                    rw [add_field _ _ 5 (by omega)] at hv111_5
                                    replace hv111_5 := Option.some.inj (hv111_5.symm.trans hx111_5)
                                    injection hv111_5 with hva_ hvn_ hvc_
                                    rw [hva_] at ge111_5
                                    rw [hvc_] at ul111_5
                                    have HL111_5 := Aside0.mk (show Kd.V k24 24 _ w.heap.size _ _ ((rd_T24 t107 x7_4).f5) from Kd.V_mk ul111_5 ge111_5)
                                    clear hva_ hvn_ hvc_ ge111_5 ul111_5
                                    clear hcc111 hce111
                                    have HR111_5 := Aside0.mk hi111_5
                                    have HC111_5 := Aside0.mk hl111_5
                                    clear hi111_5 hl111_5
                                    replace p111 := eq_true p111
                                    replace q111 := eq_true q111
                                    refine start_ (n := 10) (S := fun w' => w'.cell? (ad110.add ((x7_4).toNat * 6)) = some (.int .i64 ((rd_T24 t104 x7_4).f0)) ∧ w'.cell? ⟨(ad110.add ((x7_4).toNat * 6)).block, (ad110.add ((x7_4).toNat * 6)).off + 1, none⟩ = some (.int .i64 ((rd_T24 t104 x7_4).f1)) ∧ w'.cell? ⟨(ad110.add ((x7_4).toNat * 6)).block, (ad110.add ((x7_4).toNat * 6)).off + 2, none⟩ = some (.int .i64 ((rd_T24 t104 x7_4).f2)) ∧ w'.cell? ⟨(ad110.add ((x7_4).toNat * 6)).block, (ad110.add ((x7_4).toNat * 6)).off + 3, none⟩ = some (.int .i64 ((rd_T24 t104 x7_4).f3)) ∧ w'.cell? ⟨(ad110.add ((x7_4).toNat * 6)).block, (ad110.add ((x7_4).toNat * 6)).off + 4, none⟩ = some (.int .i64 ((rd_T24 t104 x7_4).f4)) ∧ w'.cell? ⟨(ad110.add ((x7_4).toNat * 6)).block, (ad110.add ((x7_4).toNat * 6)).off + 5, none⟩ = some (.slice A110_5 ((rd_T24 t104 x7_4).f5).length c110_5) ∧ w'.cell? (ad111.add ((x7_4).toNat * 6)) = some (.int .i64 ((rd_T24 t107 x7_4).f0)) ∧ w'.cell? ⟨(ad111.add ((x7_4).toNat * 6)).block, (ad111.add ((x7_4).toNat * 6)).off + 1, none⟩ = some (.int .i64 ((rd_T24 t107 x7_4).f1)) ∧ w'.cell? ⟨(ad111.add ((x7_4).toNat * 6)).block, (ad111.add ((x7_4).toNat * 6)).off + 2, none⟩ = some (.int .i64 ((rd_T24 t107 x7_4).f2)) ∧ w'.cell? ⟨(ad111.add ((x7_4).toNat * 6)).block, (ad111.add ((x7_4).toNat * 6)).off + 3, none⟩ = some (.int .i64 ((rd_T24 t107 x7_4).f3)) ∧ w'.cell? ⟨(ad111.add ((x7_4).toNat * 6)).block, (ad111.add ((x7_4).toNat * 6)).off + 4, none⟩ = some (.int .i64 ((rd_T24 t107 x7_4).f4)) ∧ w'.cell? ⟨(ad111.add ((x7_4).toNat * 6)).block, (ad111.add ((x7_4).toNat * 6)).off + 5, none⟩ = some (.slice A111_5 ((rd_T24 t107 x7_4).f5).length c111_5)) (ds := []) #[false, false, false, false, false, false, false, false, false, false] (by kernel_rfl) rfl rfl ⟨hx110_0, hx110_1, hx110_2, hx110_3, hx110_4, hx110_5, hx111_0, hx111_1, hx111_2, hx111_3, hx111_4, hx111_5⟩ (fun hHeld => ?_); refine with_tabW passepartoutref04_Same.tab16 passepartoutref04_Same.bits16 (fun HT_ HW_ => ?_)
                                    generalize wr.drew = w88 at HO_5 HO_6 BK102 BK103 HB HL110_5 HL111_5 HR110_5 HR111_5 hx110_0 hx110_1 hx110_2 hx110_3 hx110_4 hx110_5 hx111_0 hx111_1 hx111_2 hx111_3 hx111_4 hx111_5 hHeld ⊢
                                    refine pure_ (i := 0) (N := some 105) (v := ?_) (a' := ?_) #[true, false, false, false, false, false, false, false, false, false] rfl rfl (any_of HT_.out (by kernel_rfl)) (fun _ _ _ h => h) (Or.inl ⟨by rfl, ?_⟩) ?_ ?_
                                    rotate_left
                                    · intro w'
                                      go_simp
                                      with_reducible rfl
                                    rotate_left
                                    · simp only [Act.put, List.setIfInBounds_toArray, List.set_cons_zero, List.set_cons_succ, i64_w, i32_w]
                                      rfl
                                    refine pure_ (i := 1) (N := some 106) (v := ?_) (a' := ?_) #[true, true, false, false, false, false, false, false, false, false] rfl rfl (any_of HT_.out (by kernel_rfl)) (fun _ _ _ h => h) (Or.inl ⟨by rfl, ?_⟩) ?_ ?_
                                    rotate_left
                                    · intro w'
                                      go_simp
                                      with_reducible rfl
                                    rotate_left
                                    · simp only [Act.put, List.setIfInBounds_toArray, List.set_cons_zero, List.set_cons_succ, i64_w, i32_w]
                                      rfl
                                    refine pure_ (i := 2) (N := some 107) (v := ?_) (a' := ?_) #[true, true, true, false, false, false, false, false, false, false] rfl rfl (any_of HT_.out (by kernel_rfl)) (fun _ _ _ h => h) (Or.inl ⟨by rfl, ?_⟩) ?_ ?_
                                    rotate_left
                                    · intro w'
                                      go_simp
                                      with_reducible rfl
                                    rotate_left
                                    · simp only [Act.put, List.setIfInBounds_toArray, List.set_cons_zero, List.set_cons_succ, i64_w, i32_w]
                                      rfl
                                    refine pure_ (i := 4) (N := some 109) (v := ?_) (a' := ?_) #[true, true, true, false, true, false, false, false, false, false] rfl rfl (any_of HT_.out (by kernel_rfl)) (fun _ _ _ h => h) (Or.inl ⟨by rfl, ?_⟩) ?_ ?_
                                    rotate_left
                                    · intro w'
                                      go_simp
                                      with_reducible rfl
                                    rotate_left
                                    · simp only [Act.put, List.setIfInBounds_toArray, List.set_cons_zero, List.set_cons_succ, i64_w, i32_w]
                                      rfl
                                    refine pure_ (i := 5) (N := some 110) (v := ?_) (a' := ?_) #[true, true, true, false, true, true, false, false, false, false] rfl rfl (any_of HT_.out (by kernel_rfl)) (fun _ _ _ h => h) (Or.inl ⟨by rfl, ?_⟩) ?_ ?_
                                    rotate_left
                                    · intro w'
                                      go_simp
                                      with_reducible rfl
                                    rotate_left
                                    · simp only [Act.put, List.setIfInBounds_toArray, List.set_cons_zero, List.set_cons_succ, i64_w, i32_w]
                                      rfl
                                    refine pure_ (i := 6) (N := some 111) (v := ?_) (a' := ?_) #[true, true, true, false, true, true, true, false, false, false] rfl rfl (any_of HT_.out (by kernel_rfl)) (fun _ _ _ h => h) (Or.inl ⟨by rfl, ?_⟩) ?_ ?_
                                    rotate_left
                                    · intro w'
                                      go_simp
                                      with_reducible rfl
                                    rotate_left
                                    · simp only [Act.put, List.setIfInBounds_toArray, List.set_cons_zero, List.set_cons_succ, i64_w, i32_w]
                                      rfl
                                    refine take_ (i := 3) (N := some 108) (v := ?_) (a' := ?_) #[true, true, true, true, true, true, true, false, false, false] rfl rfl (take_ofW HT_.out HW_.out (by kernel_rfl)) (fun _ _ _ h => h) (Or.inl ⟨by rfl, ?_⟩) hHeld ?_ ?_
                                    rotate_left
                                    · rintro w' ⟨s0, s1, s2, s3, s4, s5, s6, s7, s8, s9, s10, s11⟩
                                      go_simp
                                      with_reducible rfl
                                    rotate_left
                                    · simp only [Act.put, List.setIfInBounds_toArray, List.set_cons_zero, List.set_cons_succ, i64_w, i32_w]
                                      rfl
                                    refine take_ (i := 7) (N := some 112) (v := ?_) (a' := ?_) #[true, true, true, true, true, true, true, true, false, false] rfl rfl (take_ofW HT_.out HW_.out (by kernel_rfl)) (fun _ _ _ h => h) (Or.inl ⟨by rfl, ?_⟩) hHeld ?_ ?_
                                    rotate_left
                                    · rintro w' ⟨s0, s1, s2, s3, s4, s5, s6, s7, s8, s9, s10, s11⟩
                                      go_simp
                                      with_reducible rfl
                                    rotate_left
                                    · simp only [Act.put, List.setIfInBounds_toArray, List.set_cons_zero, List.set_cons_succ, i64_w, i32_w]
                                      rfl
                                    refine one_ (i := 8) (N := some 113) #[true, true, true, true, true, true, true, true, true, false] rfl rfl (one_of HT_.out (by kernel_rfl)) (by decide) (fun K hK => ?_)
                                    refine goes_ Try.func10 (by kernel_rfl) rfl #[.agg #[.int .i64 ((rd_T24 t104 x7_4).f0), .int .i64 ((rd_T24 t104 x7_4).f1), .int .i64 ((rd_T24 t104 x7_4).f2), .int .i64 ((rd_T24 t104 x7_4).f3), .int .i64 ((rd_T24 t104 x7_4).f4), .slice A110_5 ((rd_T24 t104 x7_4).f5).length c110_5], .agg #[.int .i64 ((rd_T24 t107 x7_4).f0), .int .i64 ((rd_T24 t107 x7_4).f1), .int .i64 ((rd_T24 t107 x7_4).f2), .int .i64 ((rd_T24 t107 x7_4).f3), .int .i64 ((rd_T24 t107 x7_4).f4), .slice A111_5 ((rd_T24 t107 x7_4).f5).length c111_5]] (by rfl) rfl rfl (by (try simp only [List.map_toArray, List.map_cons, List.map_nil]); first | done | rfl | (simp only [List.length_drop, List.length_take]; rfl)) ?_
                                    with_reducible refine (ih k4 (by have := HJ3.out; have := HJ24.out; have := HJ52.out; have := HK4.out; omega) ((rd_T24 t104 x7_4).f0) ((rd_T24 t104 x7_4).f1) ((rd_T24 t104 x7_4).f2) ((rd_T24 t104 x7_4).f3) ((rd_T24 t104 x7_4).f4) _ _ ((rd_T24 t104 x7_4).f5) ((rd_T24 t107 x7_4).f0) ((rd_T24 t107 x7_4).f1) ((rd_T24 t107 x7_4).f2) ((rd_T24 t107 x7_4).f3) ((rd_T24 t107 x7_4).f4) _ _ ((rd_T24 t107 x7_4).f5) true _ ?side1 ?side2 ?side3 ?side4 A86.out).mono ?_
                                    (case side1 => repeat (first | exact (by repeat (first | (with_reducible exact HR110_5.out) | (with_reducible refine Kd.C_alloc ?_ _) | (with_reducible refine Kd.C_drewN ?_ _) | (with_reducible refine Kd.C_drew ?_) | exact HR110_5.out)) | (with_reducible refine Kd.C_alloc ?_ _) | (with_reducible refine Kd.C_drewN ?_ _) | (with_reducible refine Kd.C_drew ?_)))
                                    (case side2 => exact HC110_5.out)
                                    (case side3 => repeat (first | exact (by repeat (first | (with_reducible exact HR111_5.out) | (with_reducible refine Kd.C_alloc ?_ _) | (with_reducible refine Kd.C_drewN ?_ _) | (with_reducible refine Kd.C_drew ?_) | exact HR111_5.out)) | (with_reducible refine Kd.C_alloc ?_ _) | (with_reducible refine Kd.C_drewN ?_ _) | (with_reducible refine Kd.C_drew ?_)))
                                    (case side4 => exact HC111_5.out)
                                    rintro e w89 ⟨rfl, hb⟩
                                    have HS0_ := (hb.cell (World.block_lt_of_cell? _ _ (hHeld.1))).trans (hHeld.1)
                                    have HS1_ := (hb.cell (World.block_lt_of_cell? _ _ (hHeld.2.1))).trans (hHeld.2.1)
                                    have HS2_ := (hb.cell (World.block_lt_of_cell? _ _ (hHeld.2.2.1))).trans (hHeld.2.2.1)
                                    have HS3_ := (hb.cell (World.block_lt_of_cell? _ _ (hHeld.2.2.2.1))).trans (hHeld.2.2.2.1)
                                    have HS4_ := (hb.cell (World.block_lt_of_cell? _ _ (hHeld.2.2.2.2.1))).trans (hHeld.2.2.2.2.1)
                                    have HS5_ := (hb.cell (World.block_lt_of_cell? _ _ (hHeld.2.2.2.2.2.1))).trans (hHeld.2.2.2.2.2.1)
                                    have HS6_ := (hb.cell (World.block_lt_of_cell? _ _ (hHeld.2.2.2.2.2.2.1))).trans (hHeld.2.2.2.2.2.2.1)
                                    have HS7_ := (hb.cell (World.block_lt_of_cell? _ _ (hHeld.2.2.2.2.2.2.2.1))).trans (hHeld.2.2.2.2.2.2.2.1)
                                    have HS8_ := (hb.cell (World.block_lt_of_cell? _ _ (hHeld.2.2.2.2.2.2.2.2.1))).trans (hHeld.2.2.2.2.2.2.2.2.1)
                                    have HS9_ := (hb.cell (World.block_lt_of_cell? _ _ (hHeld.2.2.2.2.2.2.2.2.2.1))).trans (hHeld.2.2.2.2.2.2.2.2.2.1)
                                    have HS10_ := (hb.cell (World.block_lt_of_cell? _ _ (hHeld.2.2.2.2.2.2.2.2.2.2.1))).trans (hHeld.2.2.2.2.2.2.2.2.2.2.1)
                                    have HS11_ := (hb.cell (World.block_lt_of_cell? _ _ (hHeld.2.2.2.2.2.2.2.2.2.2.2))).trans (hHeld.2.2.2.2.2.2.2.2.2.2.2)
                                    refine ⟨_, rfl, ?_⟩
                                    have n0_ := Aside0.mk (Kd.V_below (by (with_reducible repeat (first | apply Kd.V_alloc | apply Kd.V_drewN | apply Kd.V_drew)); exact HO_5.out) hb)
                                    have n1_ := Aside0.mk (Kd.V_below (by (with_reducible repeat (first | apply Kd.V_alloc | apply Kd.V_drewN | apply Kd.V_drew)); exact HO_6.out) hb)
                                    have n2_ := Aside0.mk (Kd.V_below (by (with_reducible repeat (first | apply Kd.V_alloc | apply Kd.V_drewN | apply Kd.V_drew)); exact HL110_5.out) hb)
                                    have n3_ := Aside0.mk (Kd.V_below (by (with_reducible repeat (first | apply Kd.V_alloc | apply Kd.V_drewN | apply Kd.V_drew)); exact HL111_5.out) hb)
                                    have n4_ := Aside0.mk (blk_below (g := gb102) (o := .cells #[.int .i64 a0_0, .int .i64 a0_1, .int .i64 a0_2, .int .i64 a0_3, .int .i64 a0_4, .slice A0_5 l0_5.length c0_5] 24 (0, 0)) (by (with_reducible repeat (first | refine blk_drewN ?_ _ | refine blk_drew ?_ | refine blk_alloc ?_ _)); exact BK102.out) hb)
                                    have n5_ := Aside0.mk (blk_below (g := gb103) (o := .cells #[.int .i64 a1_0, .int .i64 a1_1, .int .i64 a1_2, .int .i64 a1_3, .int .i64 a1_4, .slice A1_5 l1_5.length c1_5] 24 (0, 0)) (by (with_reducible repeat (first | refine blk_drewN ?_ _ | refine blk_drew ?_ | refine blk_alloc ?_ _)); exact BK103.out) hb)
                                    have n6_ := Aside0.mk (Kd.C_below (by repeat (first | (with_reducible exact HR110_5.out) | (with_reducible refine Kd.C_alloc ?_ _) | (with_reducible refine Kd.C_drewN ?_ _) | (with_reducible refine Kd.C_drew ?_) | exact HR110_5.out)) hb)
                                    have n7_ := Aside0.mk (Kd.C_below (by repeat (first | (with_reducible exact HR111_5.out) | (with_reducible refine Kd.C_alloc ?_ _) | (with_reducible refine Kd.C_drewN ?_ _) | (with_reducible refine Kd.C_drew ?_) | exact HR111_5.out)) hb)
                                    have n8_ := Aside0.mk (below_step (by repeat (first | (with_reducible first | exact HB.out | apply below_alloc | apply pw_below_drewN | apply below_drew1 | refine below_set ?_ GE102.out | refine below_set ?_ GE103.out) | exact HB.out)) hb)
                                    clear HO_5
                                    clear HO_6
                                    clear HL110_5
                                    clear HL111_5
                                    clear BK102
                                    clear BK103
                                    clear HR110_5
                                    clear HR111_5
                                    clear HB
                                    have HO_5 := n0_
                                    have HO_6 := n1_
                                    have HL110_5 := n2_
                                    have HL111_5 := n3_
                                    have BK102 := n4_
                                    have BK103 := n5_
                                    have HR110_5 := n6_
                                    have HR111_5 := n7_
                                    have HB := n8_
                                    clear n0_ n1_ n2_ n3_ n4_ n5_ n6_ n7_ n8_
                                    (try clear hb)
                                    (try clear hb2)
                                    (try clear hk)
                                    (try clear hi)
                                    refine hK.out _ _ ⟨HS0_, HS1_, HS2_, HS3_, HS4_, HS5_, HS6_, HS7_, HS8_, HS9_, HS10_, HS11_⟩ (fun hHeld => ?_)
                                    clear hK K
                                    refine norm_ (a' := ?_) ?_ ?_
                                    rotate_left
                                    · show Act.put _ (some 113) _ = _
                                      simp only [Act.put, List.setIfInBounds_toArray, List.set_cons_zero, List.set_cons_succ, i64_w, i32_w]
                                      rfl
                                    refine pure_ (i := 9) (N := some 8) (v := ?_) (a' := ?_) #[true, true, true, true, true, true, true, true, true, true] rfl rfl (any_of HT_.out (by kernel_rfl)) (fun _ _ _ h => h) (Or.inl ⟨by rfl, ?_⟩) ?_ ?_
                                    rotate_left
                                    · intro w'
                                      go_simp
                                      with_reducible rfl
                                    rotate_left
                                    · simp only [Act.put, List.setIfInBounds_toArray, List.set_cons_zero, List.set_cons_succ, i64_w, i32_w]
                                      rfl
                                    refine done_ (done_of HT_.out (by kernel_rfl)) ?_
                                    try go_wp2
                                    go_roundg k4
                                    case measure => have := HJ3.out; have := HJ24.out; have := HJ52.out; have := HK4.out; omega
                                    case rel => exact ⟨(wrap64 (x7_4 + 1)), (by first | rfl | (simp; done) | (simp [*]; done)), H', ⟨by have := HJ3.out; have := HJ24.out; have := HJ52.out; have := HK4.out; omega⟩, ⟨by (with_reducible repeat (first | apply Kd.V_alloc | apply Kd.V_drewN | apply Kd.V_drew)); exact HO_5.out⟩, ⟨by (with_reducible repeat (first | apply Kd.V_alloc | apply Kd.V_drewN | apply Kd.V_drew)); exact HO_6.out⟩, ⟨by (with_reducible repeat (first | refine blk_drewN ?_ _ | refine blk_drew ?_ | refine blk_alloc ?_ _)); exact BK102.out⟩, ⟨by (with_reducible repeat (first | refine blk_drewN ?_ _ | refine blk_drew ?_ | refine blk_alloc ?_ _)); exact BK103.out⟩, ⟨by repeat (first | (with_reducible first | exact HB.out | apply below_alloc | apply pw_below_drewN | apply below_drew1 | refine below_set ?_ GE102.out | refine below_set ?_ GE103.out) | exact HB.out)⟩⟩
                                  · replace c87 := Bool.eq_false_iff.mpr c87
                                    subst c87
                                    have H1 : (some false) = some r := by rw [if_neg (show ¬ (false = true) by decide)] at H; exact H
                                    clear H
                                    have H := H1
                                    clear H1
                                    obtain rfl := Option.some.inj H
                                    try go_wp2
                                    have n0_ := Aside0.mk (Kd.V_drew HO_5.out)
                                    have n1_ := Aside0.mk (Kd.V_drew HO_6.out)
                                    have n2_ := Aside0.mk (blk_drew BK102.out)
                                    have n3_ := Aside0.mk (blk_drew BK103.out)
                                    have n4_ := Aside0.mk (below_drew1 HB.out)
                                    clear HO_5
                                    clear HO_6
                                    clear BK102
                                    clear BK103
                                    clear HB
                                    have HO_5 := n0_
                                    have HO_6 := n1_
                                    have BK102 := n2_
                                    have BK103 := n3_
                                    have HB := n4_
                                    clear n0_ n1_ n2_ n3_ n4_
                                    have p110 : 0 ≤ (x7_4 : Int) := of_decide_eq_true (by first | (with_reducible assumption) | assumption)
                                    have q110 : x7_4 < (t104.length : Int) := of_decide_eq_true (by first | (with_reducible assumption) | assumption)
                                    obtain ⟨ad110, A110_5, c110_5, e110, hx110_0, hx110_1, hx110_2, hx110_3, hx110_4, hx110_5, hl110_5, hi110_5⟩ := at_T24 (Kd.V_reads' HO_5.out).2.2 x7_4 p110 q110
                                    cases e110
                                    obtain ⟨ce110, hce110, hMe110, hcc110⟩ := Kd.V_get HO_5.out z24 x7_4 p110 (by first | exact q110 | exact of_decide_eq_true (by first | (with_reducible assumption) | assumption) | (have e_ := (Kd.V_reads' HO_5.out).1; omega))
                                    obtain ⟨ua110_5, uc110_5, rfl, ul110_5, ge110_5⟩ := k24_openF hMe110
                                    have hv110_5 := hcc110 5 _ rfl
                                    rw [add_field _ _ 5 (by omega)] at hv110_5
                                    replace hv110_5 := Option.some.inj (hv110_5.symm.trans hx110_5)
                                    injection hv110_5 with hva_ hvn_ hvc_
                                    rw [hva_] at ge110_5
                                    rw [hvc_] at ul110_5
                                    have HL110_5 := Aside0.mk (show Kd.V k24 24 _ w.heap.size _ _ ((rd_T24 t104 x7_4).f5) from Kd.V_mk ul110_5 ge110_5)
                                    clear hva_ hvn_ hvc_ ge110_5 ul110_5
                                    clear hcc110 hce110
                                    have HR110_5 := Aside0.mk hi110_5
                                    have HC110_5 := Aside0.mk hl110_5
                                    clear hi110_5 hl110_5
                                    replace p110 := eq_true p110
                                    replace q110 := eq_true q110
                                    have p111 : 0 ≤ (x7_4 : Int) := of_decide_eq_true (by first | (with_reducible assumption) | assumption)
                                    have q111 : x7_4 < (t107.length : Int) := of_decide_eq_true (by first | (with_reducible assumption) | assumption)
                                    obtain ⟨ad111, A111_5, c111_5, e111, hx111_0, hx111_1, hx111_2, hx111_3, hx111_4, hx111_5, hl111_5, hi111_5⟩ := at_T24 (Kd.V_reads' HO_6.out).2.2 x7_4 p111 q111
                                    cases e111
                                    obtain ⟨ce111, hce111, hMe111, hcc111⟩ := Kd.V_get HO_6.out z24 x7_4 p111 (by first | exact q111 | exact of_decide_eq_true (by first | (with_reducible assumption) | assumption) | (have e_ := (Kd.V_reads' HO_6.out).1; omega))
                                    obtain ⟨ua111_5, uc111_5, rfl, ul111_5, ge111_5⟩ := k24_openF hMe111
                                    have hv111_5 := hcc111 5 _ rfl
                                    rw [add_field _ _ 5 (by omega)] at hv111_5
                                    replace hv111_5 := Option.some.inj (hv111_5.symm.trans hx111_5)
                                    injection hv111_5 with hva_ hvn_ hvc_
                                    rw [hva_] at ge111_5
                                    rw [hvc_] at ul111_5
                                    have HL111_5 := Aside0.mk (show Kd.V k24 24 _ w.heap.size _ _ ((rd_T24 t107 x7_4).f5) from Kd.V_mk ul111_5 ge111_5)
                                    clear hva_ hvn_ hvc_ ge111_5 ul111_5
                                    clear hcc111 hce111
                                    have HR111_5 := Aside0.mk hi111_5
                                    have HC111_5 := Aside0.mk hl111_5
                                    clear hi111_5 hl111_5
                                    replace p111 := eq_true p111
                                    replace q111 := eq_true q111
                                    refine start_ (n := 10) (S := fun w' => w'.cell? (ad110.add ((x7_4).toNat * 6)) = some (.int .i64 ((rd_T24 t104 x7_4).f0)) ∧ w'.cell? ⟨(ad110.add ((x7_4).toNat * 6)).block, (ad110.add ((x7_4).toNat * 6)).off + 1, none⟩ = some (.int .i64 ((rd_T24 t104 x7_4).f1)) ∧ w'.cell? ⟨(ad110.add ((x7_4).toNat * 6)).block, (ad110.add ((x7_4).toNat * 6)).off + 2, none⟩ = some (.int .i64 ((rd_T24 t104 x7_4).f2)) ∧ w'.cell? ⟨(ad110.add ((x7_4).toNat * 6)).block, (ad110.add ((x7_4).toNat * 6)).off + 3, none⟩ = some (.int .i64 ((rd_T24 t104 x7_4).f3)) ∧ w'.cell? ⟨(ad110.add ((x7_4).toNat * 6)).block, (ad110.add ((x7_4).toNat * 6)).off + 4, none⟩ = some (.int .i64 ((rd_T24 t104 x7_4).f4)) ∧ w'.cell? ⟨(ad110.add ((x7_4).toNat * 6)).block, (ad110.add ((x7_4).toNat * 6)).off + 5, none⟩ = some (.slice A110_5 ((rd_T24 t104 x7_4).f5).length c110_5) ∧ w'.cell? (ad111.add ((x7_4).toNat * 6)) = some (.int .i64 ((rd_T24 t107 x7_4).f0)) ∧ w'.cell? ⟨(ad111.add ((x7_4).toNat * 6)).block, (ad111.add ((x7_4).toNat * 6)).off + 1, none⟩ = some (.int .i64 ((rd_T24 t107 x7_4).f1)) ∧ w'.cell? ⟨(ad111.add ((x7_4).toNat * 6)).block, (ad111.add ((x7_4).toNat * 6)).off + 2, none⟩ = some (.int .i64 ((rd_T24 t107 x7_4).f2)) ∧ w'.cell? ⟨(ad111.add ((x7_4).toNat * 6)).block, (ad111.add ((x7_4).toNat * 6)).off + 3, none⟩ = some (.int .i64 ((rd_T24 t107 x7_4).f3)) ∧ w'.cell? ⟨(ad111.add ((x7_4).toNat * 6)).block, (ad111.add ((x7_4).toNat * 6)).off + 4, none⟩ = some (.int .i64 ((rd_T24 t107 x7_4).f4)) ∧ w'.cell? ⟨(ad111.add ((x7_4).toNat * 6)).block, (ad111.add ((x7_4).toNat * 6)).off + 5, none⟩ = some (.slice A111_5 ((rd_T24 t107 x7_4).f5).length c111_5)) (ds := []) #[false, false, false, false, false, false, false, false, false, false] (by kernel_rfl) rfl rfl ⟨hx110_0, hx110_1, hx110_2, hx110_3, hx110_4, hx110_5, hx111_0, hx111_1, hx111_2, hx111_3, hx111_4, hx111_5⟩ (fun hHeld => ?_); refine with_tabW passepartoutref04_Same.tab16 passepartoutref04_Same.bits16 (fun HT_ HW_ => ?_)
                                    generalize wr.drew = w90 at HO_5 HO_6 BK102 BK103 HB HL110_5 HL111_5 HR110_5 HR111_5 hx110_0 hx110_1 hx110_2 hx110_3 hx110_4 hx110_5 hx111_0 hx111_1 hx111_2 hx111_3 hx111_4 hx111_5 hHeld ⊢
                                    refine pure_ (i := 0) (N := some 105) (v := ?_) (a' := ?_) #[true, false, false, false, false, false, false, false, false, false] rfl rfl (any_of HT_.out (by kernel_rfl)) (fun _ _ _ h => h) (Or.inl ⟨by rfl, ?_⟩) ?_ ?_
                                    rotate_left
                                    · intro w'
                                      go_simp
                                      with_reducible rfl
                                    rotate_left
                                    · simp only [Act.put, List.setIfInBounds_toArray, List.set_cons_zero, List.set_cons_succ, i64_w, i32_w]
                                      rfl
                                    refine pure_ (i := 1) (N := some 106) (v := ?_) (a' := ?_) #[true, true, false, false, false, false, false, false, false, false] rfl rfl (any_of HT_.out (by kernel_rfl)) (fun _ _ _ h => h) (Or.inl ⟨by rfl, ?_⟩) ?_ ?_
                                    rotate_left
                                    · intro w'
                                      go_simp
                                      with_reducible rfl
                                    rotate_left
                                    · simp only [Act.put, List.setIfInBounds_toArray, List.set_cons_zero, List.set_cons_succ, i64_w, i32_w]
                                      rfl
                                    refine pure_ (i := 2) (N := some 107) (v := ?_) (a' := ?_) #[true, true, true, false, false, false, false, false, false, false] rfl rfl (any_of HT_.out (by kernel_rfl)) (fun _ _ _ h => h) (Or.inl ⟨by rfl, ?_⟩) ?_ ?_
                                    rotate_left
                                    · intro w'
                                      go_simp
                                      with_reducible rfl
                                    rotate_left
                                    · simp only [Act.put, List.setIfInBounds_toArray, List.set_cons_zero, List.set_cons_succ, i64_w, i32_w]
                                      rfl
                                    refine pure_ (i := 4) (N := some 109) (v := ?_) (a' := ?_) #[true, true, true, false, true, false, false, false, false, false] rfl rfl (any_of HT_.out (by kernel_rfl)) (fun _ _ _ h => h) (Or.inl ⟨by rfl, ?_⟩) ?_ ?_
                                    rotate_left
                                    · intro w'
                                      go_simp
                                      with_reducible rfl
                                    rotate_left
                                    · simp only [Act.put, List.setIfInBounds_toArray, List.set_cons_zero, List.set_cons_succ, i64_w, i32_w]
                                      rfl
                                    refine pure_ (i := 5) (N := some 110) (v := ?_) (a' := ?_) #[true, true, true, false, true, true, false, false, false, false] rfl rfl (any_of HT_.out (by kernel_rfl)) (fun _ _ _ h => h) (Or.inl ⟨by rfl, ?_⟩) ?_ ?_
                                    rotate_left
                                    · intro w'
                                      go_simp
                                      with_reducible rfl
                                    rotate_left
                                    · simp only [Act.put, List.setIfInBounds_toArray, List.set_cons_zero, List.set_cons_succ, i64_w, i32_w]
                                      rfl
                                    refine pure_ (i := 6) (N := some 111) (v := ?_) (a' := ?_) #[true, true, true, false, true, true, true, false, false, false] rfl rfl (any_of HT_.out (by kernel_rfl)) (fun _ _ _ h => h) (Or.inl ⟨by rfl, ?_⟩) ?_ ?_
                                    rotate_left
                                    · intro w'
                                      go_simp
                                      with_reducible rfl
                                    rotate_left
                                    · simp only [Act.put, List.setIfInBounds_toArray, List.set_cons_zero, List.set_cons_succ, i64_w, i32_w]
                                      rfl
                                    refine take_ (i := 3) (N := some 108) (v := ?_) (a' := ?_) #[true, true, true, true, true, true, true, false, false, false] rfl rfl (take_ofW HT_.out HW_.out (by kernel_rfl)) (fun _ _ _ h => h) (Or.inl ⟨by rfl, ?_⟩) hHeld ?_ ?_
                                    rotate_left
                                    · rintro w' ⟨s0, s1, s2, s3, s4, s5, s6, s7, s8, s9, s10, s11⟩
                                      go_simp
                                      with_reducible rfl
                                    rotate_left
                                    · simp only [Act.put, List.setIfInBounds_toArray, List.set_cons_zero, List.set_cons_succ, i64_w, i32_w]
                                      rfl
                                    refine take_ (i := 7) (N := some 112) (v := ?_) (a' := ?_) #[true, true, true, true, true, true, true, true, false, false] rfl rfl (take_ofW HT_.out HW_.out (by kernel_rfl)) (fun _ _ _ h => h) (Or.inl ⟨by rfl, ?_⟩) hHeld ?_ ?_
                                    rotate_left
                                    · rintro w' ⟨s0, s1, s2, s3, s4, s5, s6, s7, s8, s9, s10, s11⟩
                                      go_simp
                                      with_reducible rfl
                                    rotate_left
                                    · simp only [Act.put, List.setIfInBounds_toArray, List.set_cons_zero, List.set_cons_succ, i64_w, i32_w]
                                      rfl
                                    refine one_ (i := 8) (N := some 113) #[true, true, true, true, true, true, true, true, true, false] rfl rfl (one_of HT_.out (by kernel_rfl)) (by decide) (fun K hK => ?_)
                                    refine goes_ Try.func10 (by kernel_rfl) rfl #[.agg #[.int .i64 ((rd_T24 t104 x7_4).f0), .int .i64 ((rd_T24 t104 x7_4).f1), .int .i64 ((rd_T24 t104 x7_4).f2), .int .i64 ((rd_T24 t104 x7_4).f3), .int .i64 ((rd_T24 t104 x7_4).f4), .slice A110_5 ((rd_T24 t104 x7_4).f5).length c110_5], .agg #[.int .i64 ((rd_T24 t107 x7_4).f0), .int .i64 ((rd_T24 t107 x7_4).f1), .int .i64 ((rd_T24 t107 x7_4).f2), .int .i64 ((rd_T24 t107 x7_4).f3), .int .i64 ((rd_T24 t107 x7_4).f4), .slice A111_5 ((rd_T24 t107 x7_4).f5).length c111_5]] (by rfl) rfl rfl (by (try simp only [List.map_toArray, List.map_cons, List.map_nil]); first | done | rfl | (simp only [List.length_drop, List.length_take]; rfl)) ?_
                                    with_reducible refine (ih k4 (by have := HJ3.out; have := HJ24.out; have := HJ52.out; have := HK4.out; omega) ((rd_T24 t104 x7_4).f0) ((rd_T24 t104 x7_4).f1) ((rd_T24 t104 x7_4).f2) ((rd_T24 t104 x7_4).f3) ((rd_T24 t104 x7_4).f4) _ _ ((rd_T24 t104 x7_4).f5) ((rd_T24 t107 x7_4).f0) ((rd_T24 t107 x7_4).f1) ((rd_T24 t107 x7_4).f2) ((rd_T24 t107 x7_4).f3) ((rd_T24 t107 x7_4).f4) _ _ ((rd_T24 t107 x7_4).f5) false _ ?side1 ?side2 ?side3 ?side4 A86.out).mono ?_
                                    (case side1 => repeat (first | exact (by repeat (first | (with_reducible exact HR110_5.out) | (with_reducible refine Kd.C_alloc ?_ _) | (with_reducible refine Kd.C_drewN ?_ _) | (with_reducible refine Kd.C_drew ?_) | exact HR110_5.out)) | (with_reducible refine Kd.C_alloc ?_ _) | (with_reducible refine Kd.C_drewN ?_ _) | (with_reducible refine Kd.C_drew ?_)))
                                    (case side2 => exact HC110_5.out)
                                    (case side3 => repeat (first | exact (by repeat (first | (with_reducible exact HR111_5.out) | (with_reducible refine Kd.C_alloc ?_ _) | (with_reducible refine Kd.C_drewN ?_ _) | (with_reducible refine Kd.C_drew ?_) | exact HR111_5.out)) | (with_reducible refine Kd.C_alloc ?_ _) | (with_reducible refine Kd.C_drewN ?_ _) | (with_reducible refine Kd.C_drew ?_)))
                                    (case side4 => exact HC111_5.out)
                                    rintro e w91 ⟨rfl, hb⟩
                                    have HS0_ := (hb.cell (World.block_lt_of_cell? _ _ (hHeld.1))).trans (hHeld.1)
                                    have HS1_ := (hb.cell (World.block_lt_of_cell? _ _ (hHeld.2.1))).trans (hHeld.2.1)
                                    have HS2_ := (hb.cell (World.block_lt_of_cell? _ _ (hHeld.2.2.1))).trans (hHeld.2.2.1)
                                    have HS3_ := (hb.cell (World.block_lt_of_cell? _ _ (hHeld.2.2.2.1))).trans (hHeld.2.2.2.1)
                                    have HS4_ := (hb.cell (World.block_lt_of_cell? _ _ (hHeld.2.2.2.2.1))).trans (hHeld.2.2.2.2.1)
                                    have HS5_ := (hb.cell (World.block_lt_of_cell? _ _ (hHeld.2.2.2.2.2.1))).trans (hHeld.2.2.2.2.2.1)
                                    have HS6_ := (hb.cell (World.block_lt_of_cell? _ _ (hHeld.2.2.2.2.2.2.1))).trans (hHeld.2.2.2.2.2.2.1)
                                    have HS7_ := (hb.cell (World.block_lt_of_cell? _ _ (hHeld.2.2.2.2.2.2.2.1))).trans (hHeld.2.2.2.2.2.2.2.1)
                                    have HS8_ := (hb.cell (World.block_lt_of_cell? _ _ (hHeld.2.2.2.2.2.2.2.2.1))).trans (hHeld.2.2.2.2.2.2.2.2.1)
                                    have HS9_ := (hb.cell (World.block_lt_of_cell? _ _ (hHeld.2.2.2.2.2.2.2.2.2.1))).trans (hHeld.2.2.2.2.2.2.2.2.2.1)
                                    have HS10_ := (hb.cell (World.block_lt_of_cell? _ _ (hHeld.2.2.2.2.2.2.2.2.2.2.1))).trans (hHeld.2.2.2.2.2.2.2.2.2.2.1)
                                    have HS11_ := (hb.cell (World.block_lt_of_cell? _ _ (hHeld.2.2.2.2.2.2.2.2.2.2.2))).trans (hHeld.2.2.2.2.2.2.2.2.2.2.2)
                                    refine ⟨_, rfl, ?_⟩
                                    have n0_ := Aside0.mk (Kd.V_below (by (with_reducible repeat (first | apply Kd.V_alloc | apply Kd.V_drewN | apply Kd.V_drew)); exact HO_5.out) hb)
                                    have n1_ := Aside0.mk (Kd.V_below (by (with_reducible repeat (first | apply Kd.V_alloc | apply Kd.V_drewN | apply Kd.V_drew)); exact HO_6.out) hb)
                                    have n2_ := Aside0.mk (Kd.V_below (by (with_reducible repeat (first | apply Kd.V_alloc | apply Kd.V_drewN | apply Kd.V_drew)); exact HL110_5.out) hb)
                                    have n3_ := Aside0.mk (Kd.V_below (by (with_reducible repeat (first | apply Kd.V_alloc | apply Kd.V_drewN | apply Kd.V_drew)); exact HL111_5.out) hb)
                                    have n4_ := Aside0.mk (blk_below (g := gb102) (o := .cells #[.int .i64 a0_0, .int .i64 a0_1, .int .i64 a0_2, .int .i64 a0_3, .int .i64 a0_4, .slice A0_5 l0_5.length c0_5] 24 (0, 0)) (by (with_reducible repeat (first | refine blk_drewN ?_ _ | refine blk_drew ?_ | refine blk_alloc ?_ _)); exact BK102.out) hb)
                                    have n5_ := Aside0.mk (blk_below (g := gb103) (o := .cells #[.int .i64 a1_0, .int .i64 a1_1, .int .i64 a1_2, .int .i64 a1_3, .int .i64 a1_4, .slice A1_5 l1_5.length c1_5] 24 (0, 0)) (by (with_reducible repeat (first | refine blk_drewN ?_ _ | refine blk_drew ?_ | refine blk_alloc ?_ _)); exact BK103.out) hb)
                                    have n6_ := Aside0.mk (Kd.C_below (by repeat (first | (with_reducible exact HR110_5.out) | (with_reducible refine Kd.C_alloc ?_ _) | (with_reducible refine Kd.C_drewN ?_ _) | (with_reducible refine Kd.C_drew ?_) | exact HR110_5.out)) hb)
                                    have n7_ := Aside0.mk (Kd.C_below (by repeat (first | (with_reducible exact HR111_5.out) | (with_reducible refine Kd.C_alloc ?_ _) | (with_reducible refine Kd.C_drewN ?_ _) | (with_reducible refine Kd.C_drew ?_) | exact HR111_5.out)) hb)
                                    have n8_ := Aside0.mk (below_step (by repeat (first | (with_reducible first | exact HB.out | apply below_alloc | apply pw_below_drewN | apply below_drew1 | refine below_set ?_ GE102.out | refine below_set ?_ GE103.out) | exact HB.out)) hb)
                                    clear HO_5
                                    clear HO_6
                                    clear HL110_5
                                    clear HL111_5
                                    clear BK102
                                    clear BK103
                                    clear HR110_5
                                    clear HR111_5
                                    clear HB
                                    have HO_5 := n0_
                                    have HO_6 := n1_
                                    have HL110_5 := n2_
                                    have HL111_5 := n3_
                                    have BK102 := n4_
                                    have BK103 := n5_
                                    have HR110_5 := n6_
                                    have HR111_5 := n7_
                                    have HB := n8_
                                    clear n0_ n1_ n2_ n3_ n4_ n5_ n6_ n7_ n8_
                                    (try clear hb)
                                    (try clear hb2)
                                    (try clear hk)
                                    (try clear hi)
                                    refine hK.out _ _ ⟨HS0_, HS1_, HS2_, HS3_, HS4_, HS5_, HS6_, HS7_, HS8_, HS9_, HS10_, HS11_⟩ (fun hHeld => ?_)
                                    clear hK K
                                    refine norm_ (a' := ?_) ?_ ?_
                                    rotate_left
                                    · show Act.put _ (some 113) _ = _
                                      simp only [Act.put, List.setIfInBounds_toArray, List.set_cons_zero, List.set_cons_succ, i64_w, i32_w]
                                      rfl
                                    refine pure_ (i := 9) (N := some 8) (v := ?_) (a' := ?_) #[true, true, true, true, true, true, true, true, true, true] rfl rfl (any_of HT_.out (by kernel_rfl)) (fun _ _ _ h => h) (Or.inl ⟨by rfl, ?_⟩) ?_ ?_
                                    rotate_left
                                    · intro w'
                                      go_simp
                                      with_reducible rfl
                                    rotate_left
                                    · simp only [Act.put, List.setIfInBounds_toArray, List.set_cons_zero, List.set_cons_succ, i64_w, i32_w]
                                      rfl
                                    refine done_ (done_of HT_.out (by kernel_rfl)) ?_
                                    try go_wp2
                                    go_ret
                                    exact ⟨by first | rfl | (simp [errW_none, errW_some] <;> rfl) | (simp [*, errW_none, errW_some] <;> rfl), by repeat (first | (with_reducible first | exact HB.out | apply below_alloc | apply pw_below_drewN | apply below_drew1 | refine below_set ?_ GE102.out | refine below_set ?_ GE103.out) | exact HB.out)⟩
                                · rw [if_neg c85] at H
                                  exact absurd H (by simp)
                              · rw [if_neg c84] at H
                                exact absurd H (by simp)
                            · rw [if_neg c83] at H
                              have c83b0 : decide (x7_4 < (t104.length : Int)) = false := decide_eq_false c83
                              clear c83
                              obtain rfl := Option.some.inj H
                              go_wp2
                              go_ret
                              exact ⟨by first | rfl | (simp [errW_none, errW_some] <;> rfl) | (simp [*, errW_none, errW_some] <;> rfl), by repeat (first | (with_reducible first | exact HB.out | apply below_alloc | apply pw_below_drewN | apply below_drew1 | refine below_set ?_ GE102.out | refine below_set ?_ GE103.out) | exact HB.out)⟩
                      · rw [if_neg c75] at H
                        have c75b0 : ((t104.length : Int) == (t107.length : Int)) = false := beq_eq_false_iff_ne.mpr c75
                        have c75b1 : ((t104.length : Int) != (t107.length : Int)) = true := bne_iff_ne.mpr c75
                        have c75b2 : (t104.length == t107.length) = false := by first | simpa using c75 | (simp at c75 ⊢; omega)
                        obtain rfl := Option.some.inj H
                        have hnb92 := NB102_103.out
                        have hnc92 := NB103_102.out
                        have hcz93_0 : wc.cell? ⟨gb102, 0, none⟩ = some (.int .i64 a0_0) := (blk_cell BK102.out 0).trans rfl
                        have hcz93_1 : wc.cell? ⟨gb102, 1, none⟩ = some (.int .i64 a0_1) := (blk_cell BK102.out 1).trans rfl
                        have hcz93_2 : wc.cell? ⟨gb102, 2, none⟩ = some (.int .i64 a0_2) := (blk_cell BK102.out 2).trans rfl
                        have hcz93_3 : wc.cell? ⟨gb102, 3, none⟩ = some (.int .i64 a0_3) := (blk_cell BK102.out 3).trans rfl
                        have hcz93_4 : wc.cell? ⟨gb102, 4, none⟩ = some (.int .i64 a0_4) := (blk_cell BK102.out 4).trans rfl
                        have hcz93_5 : wc.cell? ⟨gb102, 5, none⟩ = some (.slice A0_5 l0_5.length c0_5) := (blk_cell BK102.out 5).trans rfl
                        have hfz93_0 := blk_frozen BK102.out 0
                        have hfz93_1 := blk_frozen BK102.out 1
                        have hfz93_2 := blk_frozen BK102.out 2
                        have hfz93_3 := blk_frozen BK102.out 3
                        have hfz93_4 := blk_frozen BK102.out 4
                        have hfz93_5 := blk_frozen BK102.out 5
                        go_wp2_with (first | ((with_reducible refine gate_callee (f := 30) rfl ?_); refine goesL_ (some 91) rfl rfl Try.func30 (by kernel_rfl) rfl #[.agg #[.int .i64 a0_0, .int .i64 a0_1, .int .i64 a0_2, .int .i64 a0_3, .int .i64 a0_4, .slice A0_5 l0_5.length c0_5]] rfl (by (try simp only [List.map_toArray, List.map_cons, List.map_nil]); first | done | rfl | (simp only [List.length_drop, List.length_take]; rfl)) ?_; (with_reducible refine (passepartoutref04_parts.calls a0_0 a0_1 a0_2 a0_3 a0_4 (fun k_ => k_ < w.heap.size) _ _ l0_5 t104 _ ?side1 A73.out).mono ?_); (case side1 => exact Kd.V_mk HC0_5.out (Kd.F_below (Kd.C_F k24_heap HR0_5.out) (by repeat (first | (with_reducible first | exact HB.out | apply below_alloc | apply pw_below_drewN | apply below_drew1 | refine below_set ?_ GE102.out | refine below_set ?_ GE103.out) | exact HB.out)))); rintro e w94 ⟨v105, rfl, ho0, hb⟩; refine ⟨_, rfl, ?_⟩; have n0_ := Aside0.mk (Kd.V_lower (Kd.V_mono (ok' := fun k_ => k_ ≠ gb102 ∧ k_ ≠ gb103) ho0 (fun k_ hk_ => ⟨Or.elim hk_ (fun hs_ => fun e_ => Nat.not_le.2 hs_ (by rw [e_]; exact GW102.out)) (fun hn_ => (Kd.freshB (g := gb102) (o := .cells #[.int .i64 a0_0, .int .i64 a0_1, .int .i64 a0_2, .int .i64 a0_3, .int .i64 a0_4, .slice A0_5 l0_5.length c0_5] 24 (0, 0)) (by (with_reducible repeat (first | refine blk_drewN ?_ _ | refine blk_drew ?_ | refine blk_alloc ?_ _)); exact BK102.out) k_ hn_)), Or.elim hk_ (fun hs_ => fun e_ => Nat.not_le.2 hs_ (by rw [e_]; exact GW103.out)) (fun hn_ => (Kd.freshB (g := gb103) (o := .cells #[.int .i64 a1_0, .int .i64 a1_1, .int .i64 a1_2, .int .i64 a1_3, .int .i64 a1_4, .slice A1_5 l1_5.length c1_5] 24 (0, 0)) (by (with_reducible repeat (first | refine blk_drewN ?_ _ | refine blk_drew ?_ | refine blk_alloc ?_ _)); exact BK103.out) k_ hn_))⟩)) (below_size (by repeat (first | (with_reducible first | exact HB.out | apply below_alloc | apply pw_below_drewN | apply below_drew1 | refine below_set ?_ GE102.out | refine below_set ?_ GE103.out) | exact HB.out)))); have n1_ := Aside0.mk (blk_below (g := gb102) (o := .cells #[.int .i64 a0_0, .int .i64 a0_1, .int .i64 a0_2, .int .i64 a0_3, .int .i64 a0_4, .slice A0_5 l0_5.length c0_5] 24 (0, 0)) (by (with_reducible repeat (first | refine blk_drewN ?_ _ | refine blk_drew ?_ | refine blk_alloc ?_ _)); exact BK102.out) hb); have n2_ := Aside0.mk (blk_below (g := gb103) (o := .cells #[.int .i64 a1_0, .int .i64 a1_1, .int .i64 a1_2, .int .i64 a1_3, .int .i64 a1_4, .slice A1_5 l1_5.length c1_5] 24 (0, 0)) (by (with_reducible repeat (first | refine blk_drewN ?_ _ | refine blk_drew ?_ | refine blk_alloc ?_ _)); exact BK103.out) hb); have n3_ := Aside0.mk (below_step (by repeat (first | (with_reducible first | exact HB.out | apply below_alloc | apply pw_below_drewN | apply below_drew1 | refine below_set ?_ GE102.out | refine below_set ?_ GE103.out) | exact HB.out)) hb); clear BK102; clear BK103; clear HB; have HO106 := n0_; have BK102 := n1_; have BK103 := n2_; have HB := n3_; clear n0_ n1_ n2_ n3_; (try clear hb); (try clear hb2); (try clear hk); (try clear hi); (try clear ho0); have hcz95_0 : w94.cell? ⟨gb103, 0, none⟩ = some (.int .i64 a1_0) := (blk_cell BK103.out 0).trans rfl; have hcz95_1 : w94.cell? ⟨gb103, 1, none⟩ = some (.int .i64 a1_1) := (blk_cell BK103.out 1).trans rfl; have hcz95_2 : w94.cell? ⟨gb103, 2, none⟩ = some (.int .i64 a1_2) := (blk_cell BK103.out 2).trans rfl; have hcz95_3 : w94.cell? ⟨gb103, 3, none⟩ = some (.int .i64 a1_3) := (blk_cell BK103.out 3).trans rfl; have hcz95_4 : w94.cell? ⟨gb103, 4, none⟩ = some (.int .i64 a1_4) := (blk_cell BK103.out 4).trans rfl; have hcz95_5 : w94.cell? ⟨gb103, 5, none⟩ = some (.slice A1_5 l1_5.length c1_5) := (blk_cell BK103.out 5).trans rfl; have hfz95_0 := blk_frozen BK103.out 0; have hfz95_1 := blk_frozen BK103.out 1; have hfz95_2 := blk_frozen BK103.out 2; have hfz95_3 := blk_frozen BK103.out 3; have hfz95_4 := blk_frozen BK103.out 4; have hfz95_5 := blk_frozen BK103.out 5) | ((with_reducible refine gate_callee (f := 30) rfl ?_); refine goesL_ (some 93) rfl rfl Try.func30 (by kernel_rfl) rfl #[.agg #[.int .i64 a1_0, .int .i64 a1_1, .int .i64 a1_2, .int .i64 a1_3, .int .i64 a1_4, .slice A1_5 l1_5.length c1_5]] rfl (by (try simp only [List.map_toArray, List.map_cons, List.map_nil]); first | done | rfl | (simp only [List.length_drop, List.length_take]; rfl)) ?_; (with_reducible refine (passepartoutref04_parts.calls a1_0 a1_1 a1_2 a1_3 a1_4 (fun k_ => k_ < w.heap.size) _ _ l1_5 t107 _ ?side1 A74.out).mono ?_); (case side1 => exact Kd.V_mk HC1_5.out (Kd.F_below (Kd.C_F k24_heap HR1_5.out) (by repeat (first | (with_reducible first | exact HB.out | apply below_alloc | apply pw_below_drewN | apply below_drew1 | refine below_set ?_ GE102.out | refine below_set ?_ GE103.out) | exact HB.out)))); rintro e w96 ⟨v108, rfl, ho0, hb⟩; refine ⟨_, rfl, ?_⟩; have n0_ := Aside0.mk (Kd.V_below (by (with_reducible repeat (first | apply Kd.V_alloc | apply Kd.V_drewN | apply Kd.V_drew)); exact HO106.out) hb); have n1_ := Aside0.mk (Kd.V_lower (Kd.V_mono (ok' := fun k_ => k_ ≠ gb102 ∧ k_ ≠ gb103) ho0 (fun k_ hk_ => ⟨Or.elim hk_ (fun hs_ => fun e_ => Nat.not_le.2 hs_ (by rw [e_]; exact GW102.out)) (fun hn_ => (Kd.freshB (g := gb102) (o := .cells #[.int .i64 a0_0, .int .i64 a0_1, .int .i64 a0_2, .int .i64 a0_3, .int .i64 a0_4, .slice A0_5 l0_5.length c0_5] 24 (0, 0)) (by (with_reducible repeat (first | refine blk_drewN ?_ _ | refine blk_drew ?_ | refine blk_alloc ?_ _)); exact BK102.out) k_ hn_)), Or.elim hk_ (fun hs_ => fun e_ => Nat.not_le.2 hs_ (by rw [e_]; exact GW103.out)) (fun hn_ => (Kd.freshB (g := gb103) (o := .cells #[.int .i64 a1_0, .int .i64 a1_1, .int .i64 a1_2, .int .i64 a1_3, .int .i64 a1_4, .slice A1_5 l1_5.length c1_5] 24 (0, 0)) (by (with_reducible repeat (first | refine blk_drewN ?_ _ | refine blk_drew ?_ | refine blk_alloc ?_ _)); exact BK103.out) k_ hn_))⟩)) (below_size (by repeat (first | (with_reducible first | exact HB.out | apply below_alloc | apply pw_below_drewN | apply below_drew1 | refine below_set ?_ GE102.out | refine below_set ?_ GE103.out) | exact HB.out)))); have n2_ := Aside0.mk (blk_below (g := gb102) (o := .cells #[.int .i64 a0_0, .int .i64 a0_1, .int .i64 a0_2, .int .i64 a0_3, .int .i64 a0_4, .slice A0_5 l0_5.length c0_5] 24 (0, 0)) (by (with_reducible repeat (first | refine blk_drewN ?_ _ | refine blk_drew ?_ | refine blk_alloc ?_ _)); exact BK102.out) hb); have n3_ := Aside0.mk (blk_below (g := gb103) (o := .cells #[.int .i64 a1_0, .int .i64 a1_1, .int .i64 a1_2, .int .i64 a1_3, .int .i64 a1_4, .slice A1_5 l1_5.length c1_5] 24 (0, 0)) (by (with_reducible repeat (first | refine blk_drewN ?_ _ | refine blk_drew ?_ | refine blk_alloc ?_ _)); exact BK103.out) hb); have n4_ := Aside0.mk (below_step (by repeat (first | (with_reducible first | exact HB.out | apply below_alloc | apply pw_below_drewN | apply below_drew1 | refine below_set ?_ GE102.out | refine below_set ?_ GE103.out) | exact HB.out)) hb); clear HO106; clear BK102; clear BK103; clear HB; have HO106 := n0_; have HO109 := n1_; have BK102 := n2_; have BK103 := n3_; have HB := n4_; clear n0_ n1_ n2_ n3_ n4_; (try clear hb); (try clear hb2); (try clear hk); (try clear hi); (try clear ho0); obtain ⟨Ao97, co97, eo97⟩ := Kd.V_slice HO106.out; subst eo97; obtain ⟨Ao98, co98, eo98⟩ := Kd.V_slice HO109.out; subst eo98))
                        go_ret
                        exact ⟨by first | rfl | (simp [errW_none, errW_some] <;> rfl) | (simp [*, errW_none, errW_some] <;> rfl), by repeat (first | (with_reducible first | exact HB.out | apply below_alloc | apply pw_below_drewN | apply below_drew1 | refine below_set ?_ GE102.out | refine below_set ?_ GE103.out) | exact HB.out)⟩
  · rw [if_neg c3] at H
    have c3b0 : (a0_0 == a1_0) = false := beq_eq_false_iff_ne.mpr c3
    have c3b1 : (a0_0 != a1_0) = true := bne_iff_ne.mpr c3
    obtain rfl := Option.some.inj H
    go_enter Try.func10, Try.ntmps10
    go_wp2_with (first | ((with_reducible refine gate_dst (N := 2) rfl ?_); refine box_event ?hg (N := 2) ?hd (cs := #[.int .i64 a0_0, .int .i64 a0_1, .int .i64 a0_2, .int .i64 a0_3, .int .i64 a0_4, .slice A0_5 l0_5.length c0_5]) (t := 24) ?hr ?_; (case hd => rfl); (case hg => rfl); (case hr => first | (go_simp; done) | (go_simp; rfl)); intro gb102 hg w99 hbox hb; have n0_ := Aside0.mk (below_step (by repeat (first | (with_reducible first | exact HB.out | apply below_alloc | apply pw_below_drewN | apply below_drew1) | exact HB.out)) hb); have n1_ := Aside0.mk (hbox); have n2_ := Aside0.mk ((by rw [hg]; exact (below_size (by repeat (first | (with_reducible first | exact HB.out | apply below_alloc | apply pw_below_drewN | apply below_drew1) | exact HB.out))) : w.heap.size ≤ gb102)); have n3_ := Aside0.mk ((by rw [hg]; exact (below_size (by repeat (first | (with_reducible first | exact HB.out | apply below_alloc | apply pw_below_drewN | apply below_drew1) | exact HB.out))) : w.heap.size ≤ gb102)); clear HB; have HB := n0_; have BK102 := n1_; have GW102 := n2_; have GE102 := n3_; clear n0_ n1_ n2_ n3_; clear hb hbox hg) | ((with_reducible refine gate_dst (N := 3) rfl ?_); refine box_event ?hg (N := 3) ?hd (cs := #[.int .i64 a1_0, .int .i64 a1_1, .int .i64 a1_2, .int .i64 a1_3, .int .i64 a1_4, .slice A1_5 l1_5.length c1_5]) (t := 24) ?hr ?_; (case hd => rfl); (case hg => rfl); (case hr => first | (go_simp; done) | (go_simp; rfl)); intro gb103 hg w100 hbox hb; have n0_ := Aside0.mk (blk_below (g := gb102) (o := .cells #[.int .i64 a0_0, .int .i64 a0_1, .int .i64 a0_2, .int .i64 a0_3, .int .i64 a0_4, .slice A0_5 l0_5.length c0_5] 24 (0, 0)) (by (with_reducible repeat (first | refine blk_drewN ?_ _ | refine blk_drew ?_ | refine blk_alloc ?_ _)); exact BK102.out) hb); have n1_ := Aside0.mk (below_step (by repeat (first | (with_reducible first | exact HB.out | apply below_alloc | apply pw_below_drewN | apply below_drew1 | refine below_set ?_ GE102.out) | exact HB.out)) hb); have n2_ := Aside0.mk (hbox); have n3_ := Aside0.mk ((by rw [hg]; exact (below_size (by repeat (first | (with_reducible first | exact HB.out | apply below_alloc | apply pw_below_drewN | apply below_drew1 | refine below_set ?_ GE102.out) | exact HB.out))) : w.heap.size ≤ gb103)); have n4_ := Aside0.mk ((by rw [hg]; exact (below_size (by repeat (first | (with_reducible first | exact HB.out | apply below_alloc | apply pw_below_drewN | apply below_drew1 | refine below_set ?_ GE102.out) | exact HB.out))) : w.heap.size ≤ gb103)); have n5_ := Aside0.mk ((by rw [hg]; exact Nat.ne_of_lt (blk_lt (g := gb102) (o := .cells #[.int .i64 a0_0, .int .i64 a0_1, .int .i64 a0_2, .int .i64 a0_3, .int .i64 a0_4, .slice A0_5 l0_5.length c0_5] 24 (0, 0)) (by (with_reducible repeat (first | refine blk_drewN ?_ _ | refine blk_drew ?_ | refine blk_alloc ?_ _)); exact BK102.out)) : gb102 ≠ gb103)); have n6_ := Aside0.mk ((by rw [hg]; exact Nat.ne_of_gt (blk_lt (g := gb102) (o := .cells #[.int .i64 a0_0, .int .i64 a0_1, .int .i64 a0_2, .int .i64 a0_3, .int .i64 a0_4, .slice A0_5 l0_5.length c0_5] 24 (0, 0)) (by (with_reducible repeat (first | refine blk_drewN ?_ _ | refine blk_drew ?_ | refine blk_alloc ?_ _)); exact BK102.out)) : gb103 ≠ gb102)); clear BK102; clear HB; have BK102 := n0_; have HB := n1_; have BK103 := n2_; have GW103 := n3_; have GE103 := n4_; have NB102_103 := n5_; have NB103_102 := n6_; clear n0_ n1_ n2_ n3_ n4_ n5_ n6_; clear hb hbox hg; have hnb101 := NB102_103.out; have hnc101 := NB103_102.out; have hcz102_0 : w100.cell? ⟨gb102, 0, none⟩ = some (.int .i64 a0_0) := (blk_cell BK102.out 0).trans rfl; have hcz102_1 : w100.cell? ⟨gb102, 1, none⟩ = some (.int .i64 a0_1) := (blk_cell BK102.out 1).trans rfl; have hcz102_2 : w100.cell? ⟨gb102, 2, none⟩ = some (.int .i64 a0_2) := (blk_cell BK102.out 2).trans rfl; have hcz102_3 : w100.cell? ⟨gb102, 3, none⟩ = some (.int .i64 a0_3) := (blk_cell BK102.out 3).trans rfl; have hcz102_4 : w100.cell? ⟨gb102, 4, none⟩ = some (.int .i64 a0_4) := (blk_cell BK102.out 4).trans rfl; have hcz102_5 : w100.cell? ⟨gb102, 5, none⟩ = some (.slice A0_5 l0_5.length c0_5) := (blk_cell BK102.out 5).trans rfl; have hfz102_0 := blk_frozen BK102.out 0; have hfz102_1 := blk_frozen BK102.out 1; have hfz102_2 := blk_frozen BK102.out 2; have hfz102_3 := blk_frozen BK102.out 3; have hfz102_4 := blk_frozen BK102.out 4; have hfz102_5 := blk_frozen BK102.out 5; have hcz103_0 : w100.cell? ⟨gb103, 0, none⟩ = some (.int .i64 a1_0) := (blk_cell BK103.out 0).trans rfl; have hcz103_1 : w100.cell? ⟨gb103, 1, none⟩ = some (.int .i64 a1_1) := (blk_cell BK103.out 1).trans rfl; have hcz103_2 : w100.cell? ⟨gb103, 2, none⟩ = some (.int .i64 a1_2) := (blk_cell BK103.out 2).trans rfl; have hcz103_3 : w100.cell? ⟨gb103, 3, none⟩ = some (.int .i64 a1_3) := (blk_cell BK103.out 3).trans rfl; have hcz103_4 : w100.cell? ⟨gb103, 4, none⟩ = some (.int .i64 a1_4) := (blk_cell BK103.out 4).trans rfl; have hcz103_5 : w100.cell? ⟨gb103, 5, none⟩ = some (.slice A1_5 l1_5.length c1_5) := (blk_cell BK103.out 5).trans rfl; have hfz103_0 := blk_frozen BK103.out 0; have hfz103_1 := blk_frozen BK103.out 1; have hfz103_2 := blk_frozen BK103.out 2; have hfz103_3 := blk_frozen BK103.out 3; have hfz103_4 := blk_frozen BK103.out 4; have hfz103_5 := blk_frozen BK103.out 5))
    go_ret
    exact ⟨by first | rfl | (simp [errW_none, errW_some] <;> rfl) | (simp [*, errW_none, errW_some] <;> rfl), by repeat (first | (with_reducible first | exact HB.out | apply below_alloc | apply pw_below_drewN | apply below_drew1 | refine below_set ?_ GE102.out | refine below_set ?_ GE103.out) | exact HB.out)⟩

end Go.Proofs.Ytjlpgndcomligaa.PShapeOwn
