-- Printed by a program of this session (wip/gen) out of the translation; contracts by hand stand in other texts.
import Derived.Test.YtpndiobbogelpaaPLegalChecksx0
import Derived.Test.YtpndiobbogelpaaPLegalChecksx2
import Derived.Test.YtpndiobbogelpaaPLegalChecksx3
namespace Go.Proofs.Ytpndiobbogelpaa.PLegalChecks
open Go.RowKit Go.Proofs.YtpndiobbogelpaaW.PrintWords Go.Proofs.YtpndiobbogelpaaW.PrintLast Go.Proofs.YtpndiobbogelpaaW.PrintMore
attribute [local go_sem] max2_int min2_int max_two min_two max_three min_three max_four min_four   -- for this text's walks alone
set_option linter.unusedVariables false
set_option linter.unusedSimpArgs false

mutual
def r14_Check.l0 : Nat → Int → List (S38) → Int → Option (Int × Int)
  | 0, _, _, _ => none
  | k + 1, x0, x1, x6 => if x6 < (x1.length : Int) then (if 0 ≤ x6 then (if ((rd_T38 x1 x6).f0) < 0 then (r14_Check.j1 k x0 x1 x6 true) else (if ((rd_T38 x1 x6).f0) > 65535 then (r14_Check.j1 k x0 x1 x6 true) else (r14_Check.j1 k x0 x1 x6 (decide ((((rd_T38 x1 x6).f1).length : Int) > 65535))))) else (none)) else (some (0, 0))
def r14_Check.j1 : Nat → Int → List (S38) → Int → Bool → Option (Int × Int)
  | 0, _, _, _, _ => none
  | k + 1, x0, x1, x6, x39 => if x39 = true then (some (x6, 3)) else (r14_Check.l1 k x0 x1 x6 0)
def r14_Check.l1 : Nat → Int → List (S38) → Int → Int → Option (Int × Int)
  | 0, _, _, _, _ => none
  | k + 1, x0, x1, x6, x7 => if x7 < x6 then (if 0 ≤ x7 then (if x7 < (x1.length : Int) then (if 0 ≤ x6 then (if x6 < (x1.length : Int) then (if ((rd_T38 x1 x7).f0) = ((rd_T38 x1 x6).f0) then (some (x6, 7)) else (r14_Check.l1 k x0 x1 x6 (wrap64 (x7 + 1)))) else (none)) else (none)) else (none)) else (none)) else (if 0 ≤ x6 then (if x6 < (x1.length : Int) then ((r14_May.f k x0 ((rd_T38 x1 x6).f0)).bind fun t179 => (if t179 = true then (if ((rd_T38 x1 x6).f0) = 41 then (if x0 = 1 then (if (wrap64 (x6 + 1)) < (x1.length : Int) then (some (x6, 16)) else (r14_Check.l0 k x0 x1 (wrap64 (x6 + 1)))) else (r14_Check.l0 k x0 x1 (wrap64 (x6 + 1)))) else (r14_Check.l0 k x0 x1 (wrap64 (x6 + 1)))) else (some (x6, 8)))) else (none)) else (none))
end
def r14_Check.f (k : Nat) (a0 : Int) (l1 : List (S38)) : Option (Int × Int) := (r14_Place.f a0).bind fun t172 => (if t172 = true then (r14_Check.l0 k a0 l1 0) else (some (0, 2)))
theorem r14_Check.mono_l : ∀ k, (∀ y0 y1 y2, LeO (r14_Check.l0 k y0 y1 y2) (r14_Check.l0 (k + 1) y0 y1 y2)) ∧ (∀ y0 y1 y2 y3, LeO (r14_Check.j1 k y0 y1 y2 y3) (r14_Check.j1 (k + 1) y0 y1 y2 y3)) ∧ (∀ y0 y1 y2 y3, LeO (r14_Check.l1 k y0 y1 y2 y3) (r14_Check.l1 (k + 1) y0 y1 y2 y3))
  | 0 => ⟨fun _ _ _ r h => by simp [r14_Check.l0] at h, fun _ _ _ _ r h => by simp [r14_Check.j1] at h, fun _ _ _ _ r h => by simp [r14_Check.l1] at h⟩
  | k + 1 => by
    obtain ⟨ih0, ih1, ih2⟩ := r14_Check.mono_l k
    refine ⟨?_, ?_, ?_⟩
    · intro y0 y1 y2
      unfold r14_Check.l0
      repeat' first
      | (with_reducible exact ih0 _ _ _)
      | (with_reducible exact ih1 _ _ _ _)
      | (with_reducible exact ih2 _ _ _ _)
      | (with_reducible exact r14_May.mono _ _ _)
      | (with_reducible exact LeO.refl _)
      | (with_reducible exact LeO.none _)
      | (with_reducible refine LeO.ite ?_ ?_)
      | (with_reducible refine LeO.bind ?_ (fun _ => ?_))
      | exact ih0 _ _ _
      | exact ih1 _ _ _ _
      | exact ih2 _ _ _ _
      | exact r14_May.mono _ _ _
      | exact LeO.none _
      | refine LeO.ite ?_ ?_
      | refine LeO.bind ?_ (fun _ => ?_)
    · intro y0 y1 y2 y3
      unfold r14_Check.j1
      repeat' first
      | (with_reducible exact ih0 _ _ _)
      | (with_reducible exact ih1 _ _ _ _)
      | (with_reducible exact ih2 _ _ _ _)
      | (with_reducible exact r14_May.mono _ _ _)
      | (with_reducible exact LeO.refl _)
      | (with_reducible exact LeO.none _)
      | (with_reducible refine LeO.ite ?_ ?_)
      | (with_reducible refine LeO.bind ?_ (fun _ => ?_))
      | exact ih0 _ _ _
      | exact ih1 _ _ _ _
      | exact ih2 _ _ _ _
      | exact r14_May.mono _ _ _
      | exact LeO.none _
      | refine LeO.ite ?_ ?_
      | refine LeO.bind ?_ (fun _ => ?_)
    · intro y0 y1 y2 y3
      unfold r14_Check.l1
      repeat' first
      | (with_reducible exact ih0 _ _ _)
      | (with_reducible exact ih1 _ _ _ _)
      | (with_reducible exact ih2 _ _ _ _)
      | (with_reducible exact r14_May.mono _ _ _)
      | (with_reducible exact LeO.refl _)
      | (with_reducible exact LeO.none _)
      | (with_reducible refine LeO.ite ?_ ?_)
      | (with_reducible refine LeO.bind ?_ (fun _ => ?_))
      | exact ih0 _ _ _
      | exact ih1 _ _ _ _
      | exact ih2 _ _ _ _
      | exact r14_May.mono _ _ _
      | exact LeO.none _
      | refine LeO.ite ?_ ?_
      | refine LeO.bind ?_ (fun _ => ?_)
theorem r14_Check.mono : ∀ a0 a1 k, LeO (r14_Check.f k a0 a1) (r14_Check.f (k + 1) a0 a1) := by
  intro a0 a1 k
  obtain ⟨ih0, ih1, ih2⟩ := r14_Check.mono_l k
  unfold r14_Check.f
  repeat' first
      | (with_reducible exact ih0 _ _ _)
      | (with_reducible exact ih1 _ _ _ _)
      | (with_reducible exact ih2 _ _ _ _)
      | (with_reducible exact r14_May.mono _ _ _)
      | (with_reducible exact LeO.refl _)
      | (with_reducible exact LeO.none _)
      | (with_reducible refine LeO.ite ?_ ?_)
      | (with_reducible refine LeO.bind ?_ (fun _ => ?_))
      | exact ih0 _ _ _
      | exact ih1 _ _ _ _
      | exact ih2 _ _ _ _
      | exact r14_May.mono _ _ _
      | exact LeO.none _
      | refine LeO.ite ?_ ?_
      | refine LeO.bind ?_ (fun _ => ?_)
set_option maxHeartbeats 8000000 in
set_option maxRecDepth 100000 in
theorem r14_Check.calls (k : Nat) (a0 : Int) (A1 : Option Addr) (c1 : Nat) (l1 : List (S38)) (r1 : Int) (r2 : Int) (w : World) (hr1 : Kd.C k38 w A1 l1.length l1) (hc1 : l1.length ≤ c1) (h : r14_Check.f k a0 l1 = some (r1, r2)) :
    Calls Try.prog 11 #[.int .i64 a0, .slice A1 l1.length c1] w fun e w' => e = .returned (.tuple #[.int .i64 r1, .int .i64 r2]) ∧ Below w.heap.size w w' := by
  have HR1 := Aside0.mk hr1
  have HC1 := Aside0.mk hc1
  clear hr1 hc1
  have HB := Aside0.mk (Below.refl w.heap.size w)
  have H : ((r14_Place.f a0).bind fun t172 => (if t172 = true then (r14_Check.l0 k a0 l1 0) else (some (0, 2)))) = some (r1, r2) := h
  clear h
  replace H := Option.bind_eq_some_iff.mp H
  obtain ⟨t172, A30, H⟩ := H
  replace H : (if t172 = true then (r14_Check.l0 k a0 l1 0) else (some (0, 2))) = some (r1, r2) := H
  have A3 := Aside0.mk A30
  clear A30
  by_cases c4 : t172 = true
  · subst c4
    have H1 : (r14_Check.l0 k a0 l1 0) = some (r1, r2) := by rw [if_pos rfl] at H; exact H
    clear H
    have H := H1
    clear H1
    have H' := Aside0.mk H
    clear H
    go_enter Try.func11, Try.ntmps11
    go_wp2_with (first | (go_at_call 15; (with_reducible refine (r14_Place.calls a0 true _ A3.out).mono ?_); rintro e w' ⟨rfl, ⟨nd, rfl⟩⟩; (try first | exact ⟨rfl, _, World.drewN_drewN _ _ _⟩ | exact ⟨rfl, _, Eq.trans (World.drewN_drewN _ _ _) (congrArg (World.drewN _) (Nat.add_assoc _ _ _))⟩)))
    repeat (go_quiet (first | (go_at_call 15; (with_reducible refine (r14_Place.calls a0 true _ A3.out).mono ?_); rintro e w' ⟨rfl, ⟨nd, rfl⟩⟩; (try first | exact ⟨rfl, _, World.drewN_drewN _ _ _⟩ | exact ⟨rfl, _, Eq.trans (World.drewN_drewN _ _ _) (congrArg (World.drewN _) (Nat.add_assoc _ _ _))⟩))); try go_wp2_with (first | (go_at_call 15; (with_reducible refine (r14_Place.calls a0 true _ A3.out).mono ?_); rintro e w' ⟨rfl, ⟨nd, rfl⟩⟩; (try first | exact ⟨rfl, _, World.drewN_drewN _ _ _⟩ | exact ⟨rfl, _, Eq.trans (World.drewN_drewN _ _ _) (congrArg (World.drewN _) (Nat.add_assoc _ _ _))⟩))))
    go_loopg [6] k (fun kq v6 w' => ∃ (x6_1 : Int), v6 = .int .i64 x6_1 ∧ Aside0 (r14_Check.l0 kq a0 l1 x6_1 = some (r1, r2)) ∧ Aside0 (kq ≤ k) ∧ Aside0 (Below w.heap.size w w'))
    case atStart => exact ⟨(0), (by first | rfl | (simp; done) | (simp [*]; done)), H', ⟨Nat.le_refl _⟩, ⟨by repeat (first | (with_reducible first | exact HB.out | apply below_alloc | apply pw_below_drewN | apply below_drew1) | exact HB.out)⟩⟩
    case round =>
      clear H'
      try clear c1
      try clear p2
      try clear c4
      obtain ⟨x6_1, rfl, HA, HK1, HB⟩ := hrel
      cases gk with
      | zero => exact absurd HA.out (by simp [r14_Check.l0])
      | succ k1 =>
        have H := HA.out
        clear HA
        simp only [r14_Check.l0] at H
        by_cases c5 : x6_1 < (l1.length : Int)
        · rw [if_pos c5] at H
          have c5b0 : decide (x6_1 < (l1.length : Int)) = true := decide_eq_true c5
          clear c5
          have HC6 := Aside0.mk H
          clear H
          go_upto_region 6 with (fail)
          repeat (go_quiet (fail); go_upto_region 6 with (fail))
          go_cut [39] (fun v39 wc => ∃ (kq : Nat) (x39_5 : Bool), v39 = .bool x39_5 ∧ Aside0 (r14_Check.j1 kq a0 l1 x6_1 x39_5 = some (r1, r2)) ∧ Aside0 (kq ≤ k1) ∧ Aside0 (Below w.heap.size w wc))
          case first =>
            have H := HC6.out
            clear HC6
            by_cases c7 : 0 ≤ x6_1
            · rw [if_pos c7] at H
              have c7b0 : decide (0 ≤ x6_1) = true := decide_eq_true c7
              clear c7
              (first | rw [c7b0] | (simp only [i64_w, i32_w]; rw [c7b0]) | skip)
              by_cases c8 : ((rd_T38 l1 x6_1).f0) < 0
              · rw [if_pos c8] at H
                have c8b0 : decide (((rd_T38 l1 x6_1).f0) < 0) = true := decide_eq_true c8
                clear c8
                have H' := Aside0.mk H
                clear H
                have p173 : 0 ≤ (x6_1 : Int) := of_decide_eq_true (by first | (with_reducible assumption) | assumption)
                have q173 : x6_1 < (l1.length : Int) := of_decide_eq_true (by first | (with_reducible assumption) | assumption)
                obtain ⟨ad173, A173_1, c173_1, e173, hx173_0, hx173_1, hl173_1, hi173_1⟩ := at_T38 HR1.out x6_1 p173 q173
                cases e173
                replace hx173_0 := (HB.out.cell (World.block_lt_of_cell? w _ hx173_0)).trans hx173_0
                replace hx173_1 := (HB.out.cell (World.block_lt_of_cell? w _ hx173_1)).trans hx173_1
                have HR173_1 := Aside0.mk hi173_1
                have HC173_1 := Aside0.mk hl173_1
                clear hi173_1 hl173_1
                replace p173 := eq_true p173
                replace q173 := eq_true q173
                go_wp2
                repeat (go_quiet (fail); try go_wp2)
                go_meet
                case rel => exact ⟨_, (true), (by first | rfl | (simp; done) | (simp [*]; done)), H', ⟨by have := HK1.out; first | omega | exact Nat.le_refl _⟩, ⟨by repeat (first | (with_reducible first | exact HB.out | apply below_alloc | apply pw_below_drewN | apply below_drew1) | exact HB.out)⟩⟩
              · rw [if_neg c8] at H
                have c8b0 : decide (((rd_T38 l1 x6_1).f0) < 0) = false := decide_eq_false c8
                clear c8
                by_cases c9 : ((rd_T38 l1 x6_1).f0) > 65535
                · rw [if_pos c9] at H
                  have c9b0 : decide (65535 < ((rd_T38 l1 x6_1).f0)) = true := decide_eq_true c9
                  clear c9
                  have H' := Aside0.mk H
                  clear H
                  have p173 : 0 ≤ (x6_1 : Int) := of_decide_eq_true (by first | (with_reducible assumption) | assumption)
                  have q173 : x6_1 < (l1.length : Int) := of_decide_eq_true (by first | (with_reducible assumption) | assumption)
                  obtain ⟨ad173, A173_1, c173_1, e173, hx173_0, hx173_1, hl173_1, hi173_1⟩ := at_T38 HR1.out x6_1 p173 q173
                  cases e173
                  replace hx173_0 := (HB.out.cell (World.block_lt_of_cell? w _ hx173_0)).trans hx173_0
                  replace hx173_1 := (HB.out.cell (World.block_lt_of_cell? w _ hx173_1)).trans hx173_1
                  have HR173_1 := Aside0.mk hi173_1
                  have HC173_1 := Aside0.mk hl173_1
                  clear hi173_1 hl173_1
                  replace p173 := eq_true p173
                  replace q173 := eq_true q173
                  have p174 : 0 ≤ (x6_1 : Int) := of_decide_eq_true (by first | (with_reducible assumption) | assumption)
                  have q174 : x6_1 < (l1.length : Int) := of_decide_eq_true (by first | (with_reducible assumption) | assumption)
                  obtain ⟨ad174, A174_1, c174_1, e174, hx174_0, hx174_1, hl174_1, hi174_1⟩ := at_T38 HR1.out x6_1 p174 q174
                  obtain rfl : ad173 = ad174 := (by injection e174)
                  replace hx174_0 := (HB.out.cell (World.block_lt_of_cell? w _ hx174_0)).trans hx174_0
                  replace hx174_1 := (HB.out.cell (World.block_lt_of_cell? w _ hx174_1)).trans hx174_1
                  have HR174_1 := Aside0.mk hi174_1
                  have HC174_1 := Aside0.mk hl174_1
                  clear hi174_1 hl174_1
                  replace p174 := eq_true p174
                  replace q174 := eq_true q174
                  have ea_ := Option.some.inj (hx173_1.symm.trans hx174_1)
                  injection ea_ with ea_ en_ ec_
                  subst ea_
                  subst ec_
                  clear en_
                  go_wp2
                  repeat (go_quiet (fail); try go_wp2)
                  go_meet
                  case rel => exact ⟨_, (true), (by first | rfl | (simp; done) | (simp [*]; done)), H', ⟨by have := HK1.out; first | omega | exact Nat.le_refl _⟩, ⟨by repeat (first | (with_reducible first | exact HB.out | apply below_alloc | apply pw_below_drewN | apply below_drew1) | exact HB.out)⟩⟩
                · rw [if_neg c9] at H
                  have c9b0 : decide (65535 < ((rd_T38 l1 x6_1).f0)) = false := decide_eq_false c9
                  clear c9
                  have H' := Aside0.mk H
                  clear H
                  have p173 : 0 ≤ (x6_1 : Int) := of_decide_eq_true (by first | (with_reducible assumption) | assumption)
                  have q173 : x6_1 < (l1.length : Int) := of_decide_eq_true (by first | (with_reducible assumption) | assumption)
                  obtain ⟨ad173, A173_1, c173_1, e173, hx173_0, hx173_1, hl173_1, hi173_1⟩ := at_T38 HR1.out x6_1 p173 q173
                  cases e173
                  replace hx173_0 := (HB.out.cell (World.block_lt_of_cell? w _ hx173_0)).trans hx173_0
                  replace hx173_1 := (HB.out.cell (World.block_lt_of_cell? w _ hx173_1)).trans hx173_1
                  have HR173_1 := Aside0.mk hi173_1
                  have HC173_1 := Aside0.mk hl173_1
                  clear hi173_1 hl173_1
                  replace p173 := eq_true p173
                  replace q173 := eq_true q173
                  have p174 : 0 ≤ (x6_1 : Int) := of_decide_eq_true (by first | (with_reducible assumption) | assumption)
                  have q174 : x6_1 < (l1.length : Int) := of_decide_eq_true (by first | (with_reducible assumption) | assumption)
                  obtain ⟨ad174, A174_1, c174_1, e174, hx174_0, hx174_1, hl174_1, hi174_1⟩ := at_T38 HR1.out x6_1 p174 q174
                  obtain rfl : ad173 = ad174 := (by injection e174)
                  replace hx174_0 := (HB.out.cell (World.block_lt_of_cell? w _ hx174_0)).trans hx174_0
                  replace hx174_1 := (HB.out.cell (World.block_lt_of_cell? w _ hx174_1)).trans hx174_1
                  have HR174_1 := Aside0.mk hi174_1
                  have HC174_1 := Aside0.mk hl174_1
                  clear hi174_1 hl174_1
                  replace p174 := eq_true p174
                  replace q174 := eq_true q174
                  have ea_ := Option.some.inj (hx173_1.symm.trans hx174_1)
                  injection ea_ with ea_ en_ ec_
                  subst ea_
                  subst ec_
                  clear en_
                  have p175 : 0 ≤ (x6_1 : Int) := of_decide_eq_true (by first | (with_reducible assumption) | assumption)
                  have q175 : x6_1 < (l1.length : Int) := of_decide_eq_true (by first | (with_reducible assumption) | assumption)
                  obtain ⟨ad175, A175_1, c175_1, e175, hx175_0, hx175_1, hl175_1, hi175_1⟩ := at_T38 HR1.out x6_1 p175 q175
                  obtain rfl : ad173 = ad175 := (by injection e175)
                  replace hx175_0 := (HB.out.cell (World.block_lt_of_cell? w _ hx175_0)).trans hx175_0
                  replace hx175_1 := (HB.out.cell (World.block_lt_of_cell? w _ hx175_1)).trans hx175_1
                  have HR175_1 := Aside0.mk hi175_1
                  have HC175_1 := Aside0.mk hl175_1
                  clear hi175_1 hl175_1
                  replace p175 := eq_true p175
                  replace q175 := eq_true q175
                  have ea_ := Option.some.inj (hx173_1.symm.trans hx175_1)
                  injection ea_ with ea_ en_ ec_
                  subst ea_
                  subst ec_
                  clear en_
                  go_wp2
                  repeat (go_quiet (fail); try go_wp2)
                  go_meet
                  case rel => exact ⟨_, (decide ((((rd_T38 l1 x6_1).f1).length : Int) > 65535)), (by first | rfl | (simp; done) | (simp [*]; done)), H', ⟨by have := HK1.out; first | omega | exact Nat.le_refl _⟩, ⟨by repeat (first | (with_reducible first | exact HB.out | apply below_alloc | apply pw_below_drewN | apply below_drew1) | exact HB.out)⟩⟩
            · rw [if_neg c7] at H
              exact absurd H (by simp)
          case rest =>
            clear HC6
            try clear c1
            try clear p1
            try clear q1
            try clear hx1
            try clear p2
            try clear c4
            try clear c5
            try clear c5b0
            try clear c7
            try clear c7b0
            try clear c8
            try clear c8b0
            try clear c9
            try clear c9b0
            try clear hx173_0
            try clear hx173_1
            try clear hx174_0
            try clear hx174_1
            try clear hx175_0
            try clear hx175_1
            try clear p173
            try clear p174
            try clear p175
            try clear p2
            try clear q173
            try clear q174
            try clear q175
            obtain ⟨kq, x39_5, rfl, HA, HJ5, HB⟩ := hcut
            cases kq with
            | zero => exact absurd HA.out (by simp [r14_Check.j1])
            | succ kj5 =>
              have H := HA.out
              clear HA
              simp only [r14_Check.j1] at H
              by_cases c10 : x39_5 = true
              · subst c10
                have H1 : (some (x6_1, 3)) = some (r1, r2) := by rw [if_pos rfl] at H; exact H
                clear H
                have H := H1
                clear H1
                simp only [Option.some.injEq, Prod.mk.injEq] at H
                obtain ⟨rfl, rfl⟩ := H
                go_wp2
                repeat (go_quiet (fail); try go_wp2)
                go_ret2
                exact ⟨by first | rfl | (simp [errW_none, errW_some] <;> rfl) | (simp [*, errW_none, errW_some] <;> rfl), by repeat (first | (with_reducible first | exact HB.out | apply below_alloc | apply pw_below_drewN | apply below_drew1) | exact HB.out)⟩
              · replace c10 := Bool.eq_false_iff.mpr c10
                subst c10
                have H1 : (r14_Check.l1 kj5 a0 l1 x6_1 0) = some (r1, r2) := by rw [if_neg (show ¬ (false = true) by decide)] at H; exact H
                clear H
                have H := H1
                clear H1
                have H' := Aside0.mk H
                clear H
                go_wp2
                repeat (go_quiet (fail); try go_wp2)
                go_loopg [7] kj5 (fun kq v7 w' => ∃ (x7_3 : Int), v7 = .int .i64 x7_3 ∧ Aside0 (r14_Check.l1 kq a0 l1 x6_1 x7_3 = some (r1, r2)) ∧ Aside0 (kq ≤ kj5) ∧ Aside0 (Below w.heap.size w w'))
                case atStart => exact ⟨(0), (by first | rfl | (simp; done) | (simp [*]; done)), H', ⟨Nat.le_refl _⟩, ⟨by repeat (first | (with_reducible first | exact HB.out | apply below_alloc | apply pw_below_drewN | apply below_drew1) | exact HB.out)⟩⟩
                case round =>
                  clear H'
                  try clear c1
                  try clear p1
                  try clear q1
                  try clear hx1
                  try clear p2
                  try clear c4
                  try clear c5
                  try clear c5b0
                  try clear c7
                  try clear c7b0
                  try clear c8
                  try clear c8b0
                  try clear c9
                  try clear c9b0
                  try clear c10
                  try clear hx173_0
                  try clear hx173_1
                  try clear hx174_0
                  try clear hx174_1
                  try clear hx175_0
                  try clear hx175_1
                  try clear p1
                  try clear p173
                  try clear p174
                  try clear p175
                  try clear p2
                  try clear q1
                  try clear q173
                  try clear q174
                  try clear q175
                  obtain ⟨x7_3, rfl, HA, HK3, HB⟩ := hrel
                  cases gk with
                  | zero => exact absurd HA.out (by simp [r14_Check.l1])
                  | succ k3 =>
                    have H := HA.out
                    clear HA
                    simp only [r14_Check.l1] at H
                    by_cases c11 : x7_3 < x6_1
                    · rw [if_pos c11] at H
                      have c11b0 : decide (x7_3 < x6_1) = true := decide_eq_true c11
                      clear c11
                      by_cases c12 : 0 ≤ x7_3
                      · rw [if_pos c12] at H
                        have c12b0 : decide (0 ≤ x7_3) = true := decide_eq_true c12
                        clear c12
                        by_cases c13 : x7_3 < (l1.length : Int)
                        · rw [if_pos c13] at H
                          have c13b0 : decide (x7_3 < (l1.length : Int)) = true := decide_eq_true c13
                          clear c13
                          by_cases c14 : 0 ≤ x6_1
                          · rw [if_pos c14] at H
                            have c14b0 : decide (0 ≤ x6_1) = true := decide_eq_true c14
                            clear c14
                            by_cases c15 : x6_1 < (l1.length : Int)
                            · rw [if_pos c15] at H
                              have c15b0 : decide (x6_1 < (l1.length : Int)) = true := decide_eq_true c15
                              clear c15
                              by_cases c16 : ((rd_T38 l1 x7_3).f0) = ((rd_T38 l1 x6_1).f0)
                              · rw [if_pos c16] at H
                                have c16b0 : (((rd_T38 l1 x7_3).f0) == ((rd_T38 l1 x6_1).f0)) = true := beq_iff_eq.mpr c16
                                have c16b1 : (((rd_T38 l1 x7_3).f0) != ((rd_T38 l1 x6_1).f0)) = false := bne_eq_false_iff_eq.mpr c16
                                clear c16
                                simp only [Option.some.injEq, Prod.mk.injEq] at H
                                obtain ⟨rfl, rfl⟩ := H
                                have p176 : 0 ≤ (x7_3 : Int) := of_decide_eq_true (by first | (with_reducible assumption) | assumption)
                                have q176 : x7_3 < (l1.length : Int) := of_decide_eq_true (by first | (with_reducible assumption) | assumption)
                                obtain ⟨ad176, A176_1, c176_1, e176, hx176_0, hx176_1, hl176_1, hi176_1⟩ := at_T38 HR1.out x7_3 p176 q176
                                cases e176
                                replace hx176_0 := (HB.out.cell (World.block_lt_of_cell? w _ hx176_0)).trans hx176_0
                                replace hx176_1 := (HB.out.cell (World.block_lt_of_cell? w _ hx176_1)).trans hx176_1
                                have HR176_1 := Aside0.mk hi176_1
                                have HC176_1 := Aside0.mk hl176_1
                                clear hi176_1 hl176_1
                                replace p176 := eq_true p176
                                replace q176 := eq_true q176
                                have p177 : 0 ≤ (x6_1 : Int) := of_decide_eq_true (by first | (with_reducible assumption) | assumption)
                                have q177 : x6_1 < (l1.length : Int) := of_decide_eq_true (by first | (with_reducible assumption) | assumption)
                                obtain ⟨ad177, A177_1, c177_1, e177, hx177_0, hx177_1, hl177_1, hi177_1⟩ := at_T38 HR1.out x6_1 p177 q177
                                obtain rfl : ad176 = ad177 := (by injection e177)
                                replace hx177_0 := (HB.out.cell (World.block_lt_of_cell? w _ hx177_0)).trans hx177_0
                                replace hx177_1 := (HB.out.cell (World.block_lt_of_cell? w _ hx177_1)).trans hx177_1
                                have HR177_1 := Aside0.mk hi177_1
                                have HC177_1 := Aside0.mk hl177_1
                                clear hi177_1 hl177_1
                                replace p177 := eq_true p177
                                replace q177 := eq_true q177
                                go_wp2
                                repeat (go_quiet (fail); try go_wp2)
                                go_ret2
                                exact ⟨by first | rfl | (simp [errW_none, errW_some] <;> rfl) | (simp [*, errW_none, errW_some] <;> rfl), by repeat (first | (with_reducible first | exact HB.out | apply below_alloc | apply pw_below_drewN | apply below_drew1) | exact HB.out)⟩
                              · rw [if_neg c16] at H
                                have c16b0 : (((rd_T38 l1 x7_3).f0) == ((rd_T38 l1 x6_1).f0)) = false := beq_eq_false_iff_ne.mpr c16
                                have c16b1 : (((rd_T38 l1 x7_3).f0) != ((rd_T38 l1 x6_1).f0)) = true := bne_iff_ne.mpr c16
                                have H' := Aside0.mk H
                                clear H
                                have p176 : 0 ≤ (x7_3 : Int) := of_decide_eq_true (by first | (with_reducible assumption) | assumption)
                                have q176 : x7_3 < (l1.length : Int) := of_decide_eq_true (by first | (with_reducible assumption) | assumption)
                                obtain ⟨ad176, A176_1, c176_1, e176, hx176_0, hx176_1, hl176_1, hi176_1⟩ := at_T38 HR1.out x7_3 p176 q176
                                cases e176
                                replace hx176_0 := (HB.out.cell (World.block_lt_of_cell? w _ hx176_0)).trans hx176_0
                                replace hx176_1 := (HB.out.cell (World.block_lt_of_cell? w _ hx176_1)).trans hx176_1
                                have HR176_1 := Aside0.mk hi176_1
                                have HC176_1 := Aside0.mk hl176_1
                                clear hi176_1 hl176_1
                                replace p176 := eq_true p176
                                replace q176 := eq_true q176
                                have p177 : 0 ≤ (x6_1 : Int) := of_decide_eq_true (by first | (with_reducible assumption) | assumption)
                                have q177 : x6_1 < (l1.length : Int) := of_decide_eq_true (by first | (with_reducible assumption) | assumption)
                                obtain ⟨ad177, A177_1, c177_1, e177, hx177_0, hx177_1, hl177_1, hi177_1⟩ := at_T38 HR1.out x6_1 p177 q177
                                obtain rfl : ad176 = ad177 := (by injection e177)
                                replace hx177_0 := (HB.out.cell (World.block_lt_of_cell? w _ hx177_0)).trans hx177_0
                                replace hx177_1 := (HB.out.cell (World.block_lt_of_cell? w _ hx177_1)).trans hx177_1
                                have HR177_1 := Aside0.mk hi177_1
                                have HC177_1 := Aside0.mk hl177_1
                                clear hi177_1 hl177_1
                                replace p177 := eq_true p177
                                replace q177 := eq_true q177
                                go_wp2
                                repeat (go_quiet (fail); try go_wp2)
                                go_roundg k3
                                case measure => have := HK1.out; have := HJ5.out; have := HK3.out; omega
                                case rel => exact ⟨(wrap64 (x7_3 + 1)), (by first | rfl | (simp; done) | (simp [*]; done)), H', ⟨by have := HK1.out; have := HJ5.out; have := HK3.out; omega⟩, ⟨by repeat (first | (with_reducible first | exact HB.out | apply below_alloc | apply pw_below_drewN | apply below_drew1) | exact HB.out)⟩⟩
                            · rw [if_neg c15] at H
                              exact absurd H (by simp)
                          · rw [if_neg c14] at H
                            exact absurd H (by simp)
                        · rw [if_neg c13] at H
                          exact absurd H (by simp)
                      · rw [if_neg c12] at H
                        exact absurd H (by simp)
                    · rw [if_neg c11] at H
                      have c11b0 : decide (x7_3 < x6_1) = false := decide_eq_false c11
                      clear c11
                      by_cases c17 : 0 ≤ x6_1
                      · rw [if_pos c17] at H
                        have c17b0 : decide (0 ≤ x6_1) = true := decide_eq_true c17
                        clear c17
                        by_cases c18 : x6_1 < (l1.length : Int)
                        · rw [if_pos c18] at H
                          have c18b0 : decide (x6_1 < (l1.length : Int)) = true := decide_eq_true c18
                          clear c18
                          replace H := Option.bind_eq_some_iff.mp H
                          obtain ⟨t179, A190, H⟩ := H
                          replace H : (if t179 = true then (if ((rd_T38 l1 x6_1).f0) = 41 then (if a0 = 1 then (if (wrap64 (x6_1 + 1)) < (l1.length : Int) then (some (x6_1, 16)) else (r14_Check.l0 k3 a0 l1 (wrap64 (x6_1 + 1)))) else (r14_Check.l0 k3 a0 l1 (wrap64 (x6_1 + 1)))) else (r14_Check.l0 k3 a0 l1 (wrap64 (x6_1 + 1)))) else (some (x6_1, 8))) = some (r1, r2) := H
                          have A19 := Aside0.mk A190
                          clear A190
                          by_cases c20 : t179 = true
                          · subst c20
                            have H1 : (if ((rd_T38 l1 x6_1).f0) = 41 then (if a0 = 1 then (if (wrap64 (x6_1 + 1)) < (l1.length : Int) then (some (x6_1, 16)) else (r14_Check.l0 k3 a0 l1 (wrap64 (x6_1 + 1)))) else (r14_Check.l0 k3 a0 l1 (wrap64 (x6_1 + 1)))) else (r14_Check.l0 k3 a0 l1 (wrap64 (x6_1 + 1)))) = some (r1, r2) := by rw [if_pos rfl] at H; exact H
                            clear H
                            have H := H1
                            clear H1
                            by_cases c21 : ((rd_T38 l1 x6_1).f0) = 41
                            · rw [if_pos c21] at H
                              have c21b0 : (((rd_T38 l1 x6_1).f0) == 41) = true := beq_iff_eq.mpr c21
                              have c21b1 : (((rd_T38 l1 x6_1).f0) != 41) = false := bne_eq_false_iff_eq.mpr c21
                              clear c21
                              by_cases c22 : a0 = 1
                              · rw [if_pos c22] at H
                                have c22b0 : (a0 == 1) = true := beq_iff_eq.mpr c22
                                have c22b1 : (a0 != 1) = false := bne_eq_false_iff_eq.mpr c22
                                clear c22
                                by_cases c23 : (wrap64 (x6_1 + 1)) < (l1.length : Int)
                                · rw [if_pos c23] at H
                                  have c23b0 : decide ((wrap64 (x6_1 + 1)) < (l1.length : Int)) = true := decide_eq_true c23
                                  clear c23
                                  simp only [Option.some.injEq, Prod.mk.injEq] at H
                                  obtain ⟨rfl, rfl⟩ := H
                                  have p178 : 0 ≤ (x6_1 : Int) := of_decide_eq_true (by first | (with_reducible assumption) | assumption)
                                  have q178 : x6_1 < (l1.length : Int) := of_decide_eq_true (by first | (with_reducible assumption) | assumption)
                                  obtain ⟨ad178, A178_1, c178_1, e178, hx178_0, hx178_1, hl178_1, hi178_1⟩ := at_T38 HR1.out x6_1 p178 q178
                                  cases e178
                                  replace hx178_0 := (HB.out.cell (World.block_lt_of_cell? w _ hx178_0)).trans hx178_0
                                  replace hx178_1 := (HB.out.cell (World.block_lt_of_cell? w _ hx178_1)).trans hx178_1
                                  have HR178_1 := Aside0.mk hi178_1
                                  have HC178_1 := Aside0.mk hl178_1
                                  clear hi178_1 hl178_1
                                  replace p178 := eq_true p178
                                  replace q178 := eq_true q178
                                  go_wp2_with (first | (go_at_call 17; (with_reducible refine (r14_May.calls k3 a0 ((rd_T38 l1 x6_1).f0) true _ A19.out).mono ?_); rintro e w24 ⟨rfl, hb⟩; have n0_ := Aside0.mk (below_step (by repeat (first | (with_reducible first | exact HB.out | apply below_alloc | apply pw_below_drewN | apply below_drew1) | exact HB.out)) hb); clear HB; have HB := n0_; clear n0_; (try clear hb); (try clear hb2); (try clear hk); (try clear hi); have p180 : 0 ≤ (x6_1 : Int) := of_decide_eq_true (by first | (with_reducible assumption) | assumption); have q180 : x6_1 < (l1.length : Int) := of_decide_eq_true (by first | (with_reducible assumption) | assumption); obtain ⟨ad180, A180_1, c180_1, e180, hx180_0, hx180_1, hl180_1, hi180_1⟩ := at_T38 HR1.out x6_1 p180 q180; obtain rfl : ad178 = ad180 := (by injection e180); replace hx180_0 := (HB.out.cell (World.block_lt_of_cell? w _ hx180_0)).trans hx180_0; replace hx180_1 := (HB.out.cell (World.block_lt_of_cell? w _ hx180_1)).trans hx180_1; have HR180_1 := Aside0.mk hi180_1; have HC180_1 := Aside0.mk hl180_1; clear hi180_1 hl180_1; replace p180 := eq_true p180; replace q180 := eq_true q180))
                                  repeat (go_quiet (first | (go_at_call 17; (with_reducible refine (r14_May.calls k3 a0 ((rd_T38 l1 x6_1).f0) true _ A19.out).mono ?_); rintro e w24 ⟨rfl, hb⟩; have n0_ := Aside0.mk (below_step (by repeat (first | (with_reducible first | exact HB.out | apply below_alloc | apply pw_below_drewN | apply below_drew1) | exact HB.out)) hb); clear HB; have HB := n0_; clear n0_; (try clear hb); (try clear hb2); (try clear hk); (try clear hi); have p180 : 0 ≤ (x6_1 : Int) := of_decide_eq_true (by first | (with_reducible assumption) | assumption); have q180 : x6_1 < (l1.length : Int) := of_decide_eq_true (by first | (with_reducible assumption) | assumption); obtain ⟨ad180, A180_1, c180_1, e180, hx180_0, hx180_1, hl180_1, hi180_1⟩ := at_T38 HR1.out x6_1 p180 q180; obtain rfl : ad178 = ad180 := (by injection e180); replace hx180_0 := (HB.out.cell (World.block_lt_of_cell? w _ hx180_0)).trans hx180_0; replace hx180_1 := (HB.out.cell (World.block_lt_of_cell? w _ hx180_1)).trans hx180_1; have HR180_1 := Aside0.mk hi180_1; have HC180_1 := Aside0.mk hl180_1; clear hi180_1 hl180_1; replace p180 := eq_true p180; replace q180 := eq_true q180)); try go_wp2_with (first | (go_at_call 17; (with_reducible refine (r14_May.calls k3 a0 ((rd_T38 l1 x6_1).f0) true _ A19.out).mono ?_); rintro e w24 ⟨rfl, hb⟩; have n0_ := Aside0.mk (below_step (by repeat (first | (with_reducible first | exact HB.out | apply below_alloc | apply pw_below_drewN | apply below_drew1) | exact HB.out)) hb); clear HB; have HB := n0_; clear n0_; (try clear hb); (try clear hb2); (try clear hk); (try clear hi); have p180 : 0 ≤ (x6_1 : Int) := of_decide_eq_true (by first | (with_reducible assumption) | assumption); have q180 : x6_1 < (l1.length : Int) := of_decide_eq_true (by first | (with_reducible assumption) | assumption); obtain ⟨ad180, A180_1, c180_1, e180, hx180_0, hx180_1, hl180_1, hi180_1⟩ := at_T38 HR1.out x6_1 p180 q180; obtain rfl : ad178 = ad180 := (by injection e180); replace hx180_0 := (HB.out.cell (World.block_lt_of_cell? w _ hx180_0)).trans hx180_0; replace hx180_1 := (HB.out.cell (World.block_lt_of_cell? w _ hx180_1)).trans hx180_1; have HR180_1 := Aside0.mk hi180_1; have HC180_1 := Aside0.mk hl180_1; clear hi180_1 hl180_1; replace p180 := eq_true p180; replace q180 := eq_true q180)))
                                  go_ret2
                                  exact ⟨by first | rfl | (simp [errW_none, errW_some] <;> rfl) | (simp [*, errW_none, errW_some] <;> rfl), by repeat (first | (with_reducible first | exact HB.out | apply below_alloc | apply pw_below_drewN | apply below_drew1) | exact HB.out)⟩
                                · rw [if_neg c23] at H
                                  have c23b0 : decide ((wrap64 (x6_1 + 1)) < (l1.length : Int)) = false := decide_eq_false c23
                                  clear c23
                                  have H' := Aside0.mk H
                                  clear H
                                  have p178 : 0 ≤ (x6_1 : Int) := of_decide_eq_true (by first | (with_reducible assumption) | assumption)
                                  have q178 : x6_1 < (l1.length : Int) := of_decide_eq_true (by first | (with_reducible assumption) | assumption)
                                  obtain ⟨ad178, A178_1, c178_1, e178, hx178_0, hx178_1, hl178_1, hi178_1⟩ := at_T38 HR1.out x6_1 p178 q178
                                  cases e178
                                  replace hx178_0 := (HB.out.cell (World.block_lt_of_cell? w _ hx178_0)).trans hx178_0
                                  replace hx178_1 := (HB.out.cell (World.block_lt_of_cell? w _ hx178_1)).trans hx178_1
                                  have HR178_1 := Aside0.mk hi178_1
                                  have HC178_1 := Aside0.mk hl178_1
                                  clear hi178_1 hl178_1
                                  replace p178 := eq_true p178
                                  replace q178 := eq_true q178
                                  go_wp2_with (first | (go_at_call 17; (with_reducible refine (r14_May.calls k3 a0 ((rd_T38 l1 x6_1).f0) true _ A19.out).mono ?_); rintro e w25 ⟨rfl, hb⟩; have n0_ := Aside0.mk (below_step (by repeat (first | (with_reducible first | exact HB.out | apply below_alloc | apply pw_below_drewN | apply below_drew1) | exact HB.out)) hb); clear HB; have HB := n0_; clear n0_; (try clear hb); (try clear hb2); (try clear hk); (try clear hi); have p180 : 0 ≤ (x6_1 : Int) := of_decide_eq_true (by first | (with_reducible assumption) | assumption); have q180 : x6_1 < (l1.length : Int) := of_decide_eq_true (by first | (with_reducible assumption) | assumption); obtain ⟨ad180, A180_1, c180_1, e180, hx180_0, hx180_1, hl180_1, hi180_1⟩ := at_T38 HR1.out x6_1 p180 q180; obtain rfl : ad178 = ad180 := (by injection e180); replace hx180_0 := (HB.out.cell (World.block_lt_of_cell? w _ hx180_0)).trans hx180_0; replace hx180_1 := (HB.out.cell (World.block_lt_of_cell? w _ hx180_1)).trans hx180_1; have HR180_1 := Aside0.mk hi180_1; have HC180_1 := Aside0.mk hl180_1; clear hi180_1 hl180_1; replace p180 := eq_true p180; replace q180 := eq_true q180))
                                  repeat (go_quiet (first | (go_at_call 17; (with_reducible refine (r14_May.calls k3 a0 ((rd_T38 l1 x6_1).f0) true _ A19.out).mono ?_); rintro e w25 ⟨rfl, hb⟩; have n0_ := Aside0.mk (below_step (by repeat (first | (with_reducible first | exact HB.out | apply below_alloc | apply pw_below_drewN | apply below_drew1) | exact HB.out)) hb); clear HB; have HB := n0_; clear n0_; (try clear hb); (try clear hb2); (try clear hk); (try clear hi); have p180 : 0 ≤ (x6_1 : Int) := of_decide_eq_true (by first | (with_reducible assumption) | assumption); have q180 : x6_1 < (l1.length : Int) := of_decide_eq_true (by first | (with_reducible assumption) | assumption); obtain ⟨ad180, A180_1, c180_1, e180, hx180_0, hx180_1, hl180_1, hi180_1⟩ := at_T38 HR1.out x6_1 p180 q180; obtain rfl : ad178 = ad180 := (by injection e180); replace hx180_0 := (HB.out.cell (World.block_lt_of_cell? w _ hx180_0)).trans hx180_0; replace hx180_1 := (HB.out.cell (World.block_lt_of_cell? w _ hx180_1)).trans hx180_1; have HR180_1 := Aside0.mk hi180_1; have HC180_1 := Aside0.mk hl180_1; clear hi180_1 hl180_1; replace p180 := eq_true p180; replace q180 := eq_true q180)); try go_wp2_with (first | (go_at_call 17; (with_reducible refine (r14_May.calls k3 a0 ((rd_T38 l1 x6_1).f0) true _ A19.out).mono ?_); rintro e w25 ⟨rfl, hb⟩; have n0_ := Aside0.mk (below_step (by repeat (first | (with_reducible first | exact HB.out | apply below_alloc | apply pw_below_drewN | apply below_drew1) | exact HB.out)) hb); clear HB; have HB := n0_; clear n0_; (try clear hb); (try clear hb2); (try clear hk); (try clear hi); have p180 : 0 ≤ (x6_1 : Int) := of_decide_eq_true (by first | (with_reducible assumption) | assumption); have q180 : x6_1 < (l1.length : Int) := of_decide_eq_true (by first | (with_reducible assumption) | assumption); obtain ⟨ad180, A180_1, c180_1, e180, hx180_0, hx180_1, hl180_1, hi180_1⟩ := at_T38 HR1.out x6_1 p180 q180; obtain rfl : ad178 = ad180 := (by injection e180); replace hx180_0 := (HB.out.cell (World.block_lt_of_cell? w _ hx180_0)).trans hx180_0; replace hx180_1 := (HB.out.cell (World.block_lt_of_cell? w _ hx180_1)).trans hx180_1; have HR180_1 := Aside0.mk hi180_1; have HC180_1 := Aside0.mk hl180_1; clear hi180_1 hl180_1; replace p180 := eq_true p180; replace q180 := eq_true q180)))
                                  go_roundg k3
                                  case measure => have := HK1.out; have := HJ5.out; have := HK3.out; omega
                                  case rel => exact ⟨(wrap64 (x6_1 + 1)), (by first | rfl | (simp; done) | (simp [*]; done)), H', ⟨by have := HK1.out; have := HJ5.out; have := HK3.out; omega⟩, ⟨by repeat (first | (with_reducible first | exact HB.out | apply below_alloc | apply pw_below_drewN | apply below_drew1) | exact HB.out)⟩⟩
                              · rw [if_neg c22] at H
                                have c22b0 : (a0 == 1) = false := beq_eq_false_iff_ne.mpr c22
                                have c22b1 : (a0 != 1) = true := bne_iff_ne.mpr c22
                                have H' := Aside0.mk H
                                clear H
                                have p178 : 0 ≤ (x6_1 : Int) := of_decide_eq_true (by first | (with_reducible assumption) | assumption)
                                have q178 : x6_1 < (l1.length : Int) := of_decide_eq_true (by first | (with_reducible assumption) | assumption)
                                obtain ⟨ad178, A178_1, c178_1, e178, hx178_0, hx178_1, hl178_1, hi178_1⟩ := at_T38 HR1.out x6_1 p178 q178
                                cases e178
                                replace hx178_0 := (HB.out.cell (World.block_lt_of_cell? w _ hx178_0)).trans hx178_0
                                replace hx178_1 := (HB.out.cell (World.block_lt_of_cell? w _ hx178_1)).trans hx178_1
                                have HR178_1 := Aside0.mk hi178_1
                                have HC178_1 := Aside0.mk hl178_1
                                clear hi178_1 hl178_1
                                replace p178 := eq_true p178
                                replace q178 := eq_true q178
                                go_wp2_with (first | (go_at_call 17; (with_reducible refine (r14_May.calls k3 a0 ((rd_T38 l1 x6_1).f0) true _ A19.out).mono ?_); rintro e w26 ⟨rfl, hb⟩; have n0_ := Aside0.mk (below_step (by repeat (first | (with_reducible first | exact HB.out | apply below_alloc | apply pw_below_drewN | apply below_drew1) | exact HB.out)) hb); clear HB; have HB := n0_; clear n0_; (try clear hb); (try clear hb2); (try clear hk); (try clear hi); have p180 : 0 ≤ (x6_1 : Int) := of_decide_eq_true (by first | (with_reducible assumption) | assumption); have q180 : x6_1 < (l1.length : Int) := of_decide_eq_true (by first | (with_reducible assumption) | assumption); obtain ⟨ad180, A180_1, c180_1, e180, hx180_0, hx180_1, hl180_1, hi180_1⟩ := at_T38 HR1.out x6_1 p180 q180; obtain rfl : ad178 = ad180 := (by injection e180); replace hx180_0 := (HB.out.cell (World.block_lt_of_cell? w _ hx180_0)).trans hx180_0; replace hx180_1 := (HB.out.cell (World.block_lt_of_cell? w _ hx180_1)).trans hx180_1; have HR180_1 := Aside0.mk hi180_1; have HC180_1 := Aside0.mk hl180_1; clear hi180_1 hl180_1; replace p180 := eq_true p180; replace q180 := eq_true q180))
                                repeat (go_quiet (first | (go_at_call 17; (with_reducible refine (r14_May.calls k3 a0 ((rd_T38 l1 x6_1).f0) true _ A19.out).mono ?_); rintro e w26 ⟨rfl, hb⟩; have n0_ := Aside0.mk (below_step (by repeat (first | (with_reducible first | exact HB.out | apply below_alloc | apply pw_below_drewN | apply below_drew1) | exact HB.out)) hb); clear HB; have HB := n0_; clear n0_; (try clear hb); (try clear hb2); (try clear hk); (try clear hi); have p180 : 0 ≤ (x6_1 : Int) := of_decide_eq_true (by first | (with_reducible assumption) | assumption); have q180 : x6_1 < (l1.length : Int) := of_decide_eq_true (by first | (with_reducible assumption) | assumption); obtain ⟨ad180, A180_1, c180_1, e180, hx180_0, hx180_1, hl180_1, hi180_1⟩ := at_T38 HR1.out x6_1 p180 q180; obtain rfl : ad178 = ad180 := (by injection e180); replace hx180_0 := (HB.out.cell (World.block_lt_of_cell? w _ hx180_0)).trans hx180_0; replace hx180_1 := (HB.out.cell (World.block_lt_of_cell? w _ hx180_1)).trans hx180_1; have HR180_1 := Aside0.mk hi180_1; have HC180_1 := Aside0.mk hl180_1; clear hi180_1 hl180_1; replace p180 := eq_true p180; replace q180 := eq_true q180)); try go_wp2_with (first | (go_at_call 17; (with_reducible refine (r14_May.calls k3 a0 ((rd_T38 l1 x6_1).f0) true _ A19.out).mono ?_); rintro e w26 ⟨rfl, hb⟩; have n0_ := Aside0.mk (below_step (by repeat (first | (with_reducible first | exact HB.out | apply below_alloc | apply pw_below_drewN | apply below_drew1) | exact HB.out)) hb); clear HB; have HB := n0_; clear n0_; (try clear hb); (try clear hb2); (try clear hk); (try clear hi); have p180 : 0 ≤ (x6_1 : Int) := of_decide_eq_true (by first | (with_reducible assumption) | assumption); have q180 : x6_1 < (l1.length : Int) := of_decide_eq_true (by first | (with_reducible assumption) | assumption); obtain ⟨ad180, A180_1, c180_1, e180, hx180_0, hx180_1, hl180_1, hi180_1⟩ := at_T38 HR1.out x6_1 p180 q180; obtain rfl : ad178 = ad180 := (by injection e180); replace hx180_0 := (HB.out.cell (World.block_lt_of_cell? w _ hx180_0)).trans hx180_0; replace hx180_1 := (HB.out.cell (World.block_lt_of_cell? w _ hx180_1)).trans hx180_1; have HR180_1 := Aside0.mk hi180_1; have HC180_1 := Aside0.mk hl180_1; clear hi180_1 hl180_1; replace p180 := eq_true p180; replace q180 := eq_true q180)))
                                go_roundg k3
                                case measure => have := HK1.out; have := HJ5.out; have := HK3.out; omega
                                case rel => exact ⟨(wrap64 (x6_1 + 1)), (by first | rfl | (simp; done) | (simp [*]; done)), H', ⟨by have := HK1.out; have := HJ5.out; have := HK3.out; omega⟩, ⟨by repeat (first | (with_reducible first | exact HB.out | apply below_alloc | apply pw_below_drewN | apply below_drew1) | exact HB.out)⟩⟩
                            · rw [if_neg c21] at H
                              have c21b0 : (((rd_T38 l1 x6_1).f0) == 41) = false := beq_eq_false_iff_ne.mpr c21
                              have c21b1 : (((rd_T38 l1 x6_1).f0) != 41) = true := bne_iff_ne.mpr c21
                              have H' := Aside0.mk H
                              clear H
                              have p178 : 0 ≤ (x6_1 : Int) := of_decide_eq_true (by first | (with_reducible assumption) | assumption)
                              have q178 : x6_1 < (l1.length : Int) := of_decide_eq_true (by first | (with_reducible assumption) | assumption)
                              obtain ⟨ad178, A178_1, c178_1, e178, hx178_0, hx178_1, hl178_1, hi178_1⟩ := at_T38 HR1.out x6_1 p178 q178
                              cases e178
                              replace hx178_0 := (HB.out.cell (World.block_lt_of_cell? w _ hx178_0)).trans hx178_0
                              replace hx178_1 := (HB.out.cell (World.block_lt_of_cell? w _ hx178_1)).trans hx178_1
                              have HR178_1 := Aside0.mk hi178_1
                              have HC178_1 := Aside0.mk hl178_1
                              clear hi178_1 hl178_1
                              replace p178 := eq_true p178
                              replace q178 := eq_true q178
                              go_wp2_with (first | (go_at_call 17; (with_reducible refine (r14_May.calls k3 a0 ((rd_T38 l1 x6_1).f0) true _ A19.out).mono ?_); rintro e w27 ⟨rfl, hb⟩; have n0_ := Aside0.mk (below_step (by repeat (first | (with_reducible first | exact HB.out | apply below_alloc | apply pw_below_drewN | apply below_drew1) | exact HB.out)) hb); clear HB; have HB := n0_; clear n0_; (try clear hb); (try clear hb2); (try clear hk); (try clear hi); have p180 : 0 ≤ (x6_1 : Int) := of_decide_eq_true (by first | (with_reducible assumption) | assumption); have q180 : x6_1 < (l1.length : Int) := of_decide_eq_true (by first | (with_reducible assumption) | assumption); obtain ⟨ad180, A180_1, c180_1, e180, hx180_0, hx180_1, hl180_1, hi180_1⟩ := at_T38 HR1.out x6_1 p180 q180; obtain rfl : ad178 = ad180 := (by injection e180); replace hx180_0 := (HB.out.cell (World.block_lt_of_cell? w _ hx180_0)).trans hx180_0; replace hx180_1 := (HB.out.cell (World.block_lt_of_cell? w _ hx180_1)).trans hx180_1; have HR180_1 := Aside0.mk hi180_1; have HC180_1 := Aside0.mk hl180_1; clear hi180_1 hl180_1; replace p180 := eq_true p180; replace q180 := eq_true q180))
                              repeat (go_quiet (first | (go_at_call 17; (with_reducible refine (r14_May.calls k3 a0 ((rd_T38 l1 x6_1).f0) true _ A19.out).mono ?_); rintro e w27 ⟨rfl, hb⟩; have n0_ := Aside0.mk (below_step (by repeat (first | (with_reducible first | exact HB.out | apply below_alloc | apply pw_below_drewN | apply below_drew1) | exact HB.out)) hb); clear HB; have HB := n0_; clear n0_; (try clear hb); (try clear hb2); (try clear hk); (try clear hi); have p180 : 0 ≤ (x6_1 : Int) := of_decide_eq_true (by first | (with_reducible assumption) | assumption); have q180 : x6_1 < (l1.length : Int) := of_decide_eq_true (by first | (with_reducible assumption) | assumption); obtain ⟨ad180, A180_1, c180_1, e180, hx180_0, hx180_1, hl180_1, hi180_1⟩ := at_T38 HR1.out x6_1 p180 q180; obtain rfl : ad178 = ad180 := (by injection e180); replace hx180_0 := (HB.out.cell (World.block_lt_of_cell? w _ hx180_0)).trans hx180_0; replace hx180_1 := (HB.out.cell (World.block_lt_of_cell? w _ hx180_1)).trans hx180_1; have HR180_1 := Aside0.mk hi180_1; have HC180_1 := Aside0.mk hl180_1; clear hi180_1 hl180_1; replace p180 := eq_true p180; replace q180 := eq_true q180)); try go_wp2_with (first | (go_at_call 17; (with_reducible refine (r14_May.calls k3 a0 ((rd_T38 l1 x6_1).f0) true _ A19.out).mono ?_); rintro e w27 ⟨rfl, hb⟩; have n0_ := Aside0.mk (below_step (by repeat (first | (with_reducible first | exact HB.out | apply below_alloc | apply pw_below_drewN | apply below_drew1) | exact HB.out)) hb); clear HB; have HB := n0_; clear n0_; (try clear hb); (try clear hb2); (try clear hk); (try clear hi); have p180 : 0 ≤ (x6_1 : Int) := of_decide_eq_true (by first | (with_reducible assumption) | assumption); have q180 : x6_1 < (l1.length : Int) := of_decide_eq_true (by first | (with_reducible assumption) | assumption); obtain ⟨ad180, A180_1, c180_1, e180, hx180_0, hx180_1, hl180_1, hi180_1⟩ := at_T38 HR1.out x6_1 p180 q180; obtain rfl : ad178 = ad180 := (by injection e180); replace hx180_0 := (HB.out.cell (World.block_lt_of_cell? w _ hx180_0)).trans hx180_0; replace hx180_1 := (HB.out.cell (World.block_lt_of_cell? w _ hx180_1)).trans hx180_1; have HR180_1 := Aside0.mk hi180_1; have HC180_1 := Aside0.mk hl180_1; clear hi180_1 hl180_1; replace p180 := eq_true p180; replace q180 := eq_true q180)))
                              go_roundg k3
                              case measure => have := HK1.out; have := HJ5.out; have := HK3.out; omega
                              case rel => exact ⟨(wrap64 (x6_1 + 1)), (by first | rfl | (simp; done) | (simp [*]; done)), H', ⟨by have := HK1.out; have := HJ5.out; have := HK3.out; omega⟩, ⟨by repeat (first | (with_reducible first | exact HB.out | apply below_alloc | apply pw_below_drewN | apply below_drew1) | exact HB.out)⟩⟩
                          · replace c20 := Bool.eq_false_iff.mpr c20
                            subst c20
                            have H1 : (some (x6_1, 8)) = some (r1, r2) := by rw [if_neg (show ¬ (false = true) by decide)] at H; exact H
                            clear H
                            have H := H1
                            clear H1
                            simp only [Option.some.injEq, Prod.mk.injEq] at H
                            obtain ⟨rfl, rfl⟩ := H
                            have p178 : 0 ≤ (x6_1 : Int) := of_decide_eq_true (by first | (with_reducible assumption) | assumption)
                            have q178 : x6_1 < (l1.length : Int) := of_decide_eq_true (by first | (with_reducible assumption) | assumption)
                            obtain ⟨ad178, A178_1, c178_1, e178, hx178_0, hx178_1, hl178_1, hi178_1⟩ := at_T38 HR1.out x6_1 p178 q178
                            cases e178
                            replace hx178_0 := (HB.out.cell (World.block_lt_of_cell? w _ hx178_0)).trans hx178_0
                            replace hx178_1 := (HB.out.cell (World.block_lt_of_cell? w _ hx178_1)).trans hx178_1
                            have HR178_1 := Aside0.mk hi178_1
                            have HC178_1 := Aside0.mk hl178_1
                            clear hi178_1 hl178_1
                            replace p178 := eq_true p178
                            replace q178 := eq_true q178
                            go_wp2_with (first | (go_at_call 17; (with_reducible refine (r14_May.calls k3 a0 ((rd_T38 l1 x6_1).f0) false _ A19.out).mono ?_); rintro e w28 ⟨rfl, hb⟩; have n0_ := Aside0.mk (below_step (by repeat (first | (with_reducible first | exact HB.out | apply below_alloc | apply pw_below_drewN | apply below_drew1) | exact HB.out)) hb); clear HB; have HB := n0_; clear n0_; (try clear hb); (try clear hb2); (try clear hk); (try clear hi)))
                            repeat (go_quiet (first | (go_at_call 17; (with_reducible refine (r14_May.calls k3 a0 ((rd_T38 l1 x6_1).f0) false _ A19.out).mono ?_); rintro e w28 ⟨rfl, hb⟩; have n0_ := Aside0.mk (below_step (by repeat (first | (with_reducible first | exact HB.out | apply below_alloc | apply pw_below_drewN | apply below_drew1) | exact HB.out)) hb); clear HB; have HB := n0_; clear n0_; (try clear hb); (try clear hb2); (try clear hk); (try clear hi))); try go_wp2_with (first | (go_at_call 17; (with_reducible refine (r14_May.calls k3 a0 ((rd_T38 l1 x6_1).f0) false _ A19.out).mono ?_); rintro e w28 ⟨rfl, hb⟩; have n0_ := Aside0.mk (below_step (by repeat (first | (with_reducible first | exact HB.out | apply below_alloc | apply pw_below_drewN | apply below_drew1) | exact HB.out)) hb); clear HB; have HB := n0_; clear n0_; (try clear hb); (try clear hb2); (try clear hk); (try clear hi))))
                            go_ret2
                            exact ⟨by first | rfl | (simp [errW_none, errW_some] <;> rfl) | (simp [*, errW_none, errW_some] <;> rfl), by repeat (first | (with_reducible first | exact HB.out | apply below_alloc | apply pw_below_drewN | apply below_drew1) | exact HB.out)⟩
                        · rw [if_neg c18] at H
                          exact absurd H (by simp)
                      · rw [if_neg c17] at H
                        exact absurd H (by simp)
        · rw [if_neg c5] at H
          have c5b0 : decide (x6_1 < (l1.length : Int)) = false := decide_eq_false c5
          clear c5
          simp only [Option.some.injEq, Prod.mk.injEq] at H
          obtain ⟨rfl, rfl⟩ := H
          go_wp2
          repeat (go_quiet (fail); try go_wp2)
          go_ret2
          exact ⟨by first | rfl | (simp [errW_none, errW_some] <;> rfl) | (simp [*, errW_none, errW_some] <;> rfl), by repeat (first | (with_reducible first | exact HB.out | apply below_alloc | apply pw_below_drewN | apply below_drew1) | exact HB.out)⟩
  · replace c4 := Bool.eq_false_iff.mpr c4
    subst c4
    have H1 : (some (0, 2)) = some (r1, r2) := by rw [if_neg (show ¬ (false = true) by decide)] at H; exact H
    clear H
    have H := H1
    clear H1
    simp only [Option.some.injEq, Prod.mk.injEq] at H
    obtain ⟨rfl, rfl⟩ := H
    go_enter Try.func11, Try.ntmps11
    go_wp2_with (first | (go_at_call 15; (with_reducible refine (r14_Place.calls a0 false _ A3.out).mono ?_); rintro e w' ⟨rfl, ⟨nd, rfl⟩⟩; (try first | exact ⟨rfl, _, World.drewN_drewN _ _ _⟩ | exact ⟨rfl, _, Eq.trans (World.drewN_drewN _ _ _) (congrArg (World.drewN _) (Nat.add_assoc _ _ _))⟩)))
    repeat (go_quiet (first | (go_at_call 15; (with_reducible refine (r14_Place.calls a0 false _ A3.out).mono ?_); rintro e w' ⟨rfl, ⟨nd, rfl⟩⟩; (try first | exact ⟨rfl, _, World.drewN_drewN _ _ _⟩ | exact ⟨rfl, _, Eq.trans (World.drewN_drewN _ _ _) (congrArg (World.drewN _) (Nat.add_assoc _ _ _))⟩))); try go_wp2_with (first | (go_at_call 15; (with_reducible refine (r14_Place.calls a0 false _ A3.out).mono ?_); rintro e w' ⟨rfl, ⟨nd, rfl⟩⟩; (try first | exact ⟨rfl, _, World.drewN_drewN _ _ _⟩ | exact ⟨rfl, _, Eq.trans (World.drewN_drewN _ _ _) (congrArg (World.drewN _) (Nat.add_assoc _ _ _))⟩))))
    go_ret2
    exact ⟨by first | rfl | (simp [errW_none, errW_some] <;> rfl) | (simp [*, errW_none, errW_some] <;> rfl), by repeat (first | (with_reducible first | exact HB.out | apply below_alloc | apply pw_below_drewN | apply below_drew1) | exact HB.out)⟩

def passepartoutlaw14_LegalChecks.f (k : Nat) (a0 : Int) (l1 : List (S38)) : Option (Bool) := if (l1.length : Int) > 500 then ((passepartoutlaw14_alive.f k).bind fun t181 => (some t181)) else ((legal_Check.f a0 l1).bind fun bt182 => ((r14_Check.f k a0 l1).bind fun bt184 => ((passepartoutlaw14_alive.f k).bind fun t186 => (if t186 = true then (if bt182.1 = bt184.1 then (some (bt182.2 == bt184.2)) else (some false)) else (some false)))))
theorem passepartoutlaw14_LegalChecks.mono : ∀ a0 a1 k, LeO (passepartoutlaw14_LegalChecks.f k a0 a1) (passepartoutlaw14_LegalChecks.f (k + 1) a0 a1) := by
  intro a0 a1 k
  unfold passepartoutlaw14_LegalChecks.f
  repeat' first
      | (with_reducible exact passepartoutlaw14_alive.mono _)
      | (with_reducible exact r14_Check.mono _ _ _)
      | (with_reducible exact LeO.refl _)
      | (with_reducible exact LeO.none _)
      | (with_reducible refine LeO.ite ?_ ?_)
      | (with_reducible refine LeO.bind ?_ (fun _ => ?_))
      | exact passepartoutlaw14_alive.mono _
      | exact r14_Check.mono _ _ _
      | exact LeO.none _
      | refine LeO.ite ?_ ?_
      | refine LeO.bind ?_ (fun _ => ?_)
set_option maxHeartbeats 8000000 in
set_option maxRecDepth 100000 in
theorem passepartoutlaw14_LegalChecks.calls (k : Nat) (a0 : Int) (A1 : Option Addr) (c1 : Nat) (l1 : List (S38)) (r : Bool) (w : World) (hr1 : Kd.C k38 w A1 l1.length l1) (hc1 : l1.length ≤ c1) (h : passepartoutlaw14_LegalChecks.f k a0 l1 = some r) :
    Calls Try.prog 3 #[.int .i64 a0, .slice A1 l1.length c1] w fun e w' => e = .returned (.bool r) ∧ Below w.heap.size w w' := by
  have HR1 := Aside0.mk hr1
  have HC1 := Aside0.mk hc1
  clear hr1 hc1
  have HB := Aside0.mk (Below.refl w.heap.size w)
  have H : (if (l1.length : Int) > 500 then ((passepartoutlaw14_alive.f k).bind fun t181 => (some t181)) else ((legal_Check.f a0 l1).bind fun bt182 => ((r14_Check.f k a0 l1).bind fun bt184 => ((passepartoutlaw14_alive.f k).bind fun t186 => (if t186 = true then (if bt182.1 = bt184.1 then (some (bt182.2 == bt184.2)) else (some false)) else (some false)))))) = some r := h
  clear h
  by_cases c3 : (l1.length : Int) > 500
  · rw [if_pos c3] at H
    have c3b0 : decide (500 < (l1.length : Int)) = true := decide_eq_true c3
    have c3b1 : decide (500 < l1.length) = true := decide_eq_true (by omega)
    clear c3
    replace H := Option.bind_eq_some_iff.mp H
    obtain ⟨t181, A40, H⟩ := H
    replace H : (some t181) = some r := H
    have A4 := Aside0.mk A40
    clear A40
    obtain rfl := Option.some.inj H
    go_enter Try.func3, Try.ntmps3
    go_wp2_with (first | ((with_reducible refine gate_callee (f := 9) rfl ?_); refine goesL_ (some 12) rfl rfl Try.func9 (by kernel_rfl) rfl #[] rfl (by (try simp only [List.map_toArray, List.map_cons, List.map_nil]); first | done | rfl | (simp only [List.length_drop, List.length_take]; rfl)) ?_; (with_reducible refine (passepartoutlaw14_alive.calls k  t181 _ A4.out).mono ?_); rintro e w5 ⟨rfl, hb⟩; refine ⟨_, rfl, ?_⟩; have n0_ := Aside0.mk (below_step (by repeat (first | (with_reducible first | exact HB.out | apply below_alloc | apply pw_below_drewN | apply below_drew1) | exact HB.out)) hb); clear HB; have HB := n0_; clear n0_; (try clear hb); (try clear hb2); (try clear hk); (try clear hi)))
    go_ret
    exact ⟨by first | rfl | (simp [errW_none, errW_some] <;> rfl) | (simp [*, errW_none, errW_some] <;> rfl), by repeat (first | (with_reducible first | exact HB.out | apply below_alloc | apply pw_below_drewN | apply below_drew1) | exact HB.out)⟩
  · rw [if_neg c3] at H
    have c3b0 : decide (500 < (l1.length : Int)) = false := decide_eq_false c3
    have c3b1 : decide (500 < l1.length) = false := decide_eq_false (by omega)
    clear c3
    replace H := Option.bind_eq_some_iff.mp H
    obtain ⟨⟨t182, t183⟩, A60, H⟩ := H
    replace H : ((r14_Check.f k a0 l1).bind fun bt184 => ((passepartoutlaw14_alive.f k).bind fun t186 => (if t186 = true then (if t182 = bt184.1 then (some (t183 == bt184.2)) else (some false)) else (some false)))) = some r := H
    have A6 := Aside0.mk A60
    clear A60
    replace H := Option.bind_eq_some_iff.mp H
    obtain ⟨⟨t184, t185⟩, A70, H⟩ := H
    replace H : ((passepartoutlaw14_alive.f k).bind fun t186 => (if t186 = true then (if t182 = t184 then (some (t183 == t185)) else (some false)) else (some false))) = some r := H
    have A7 := Aside0.mk A70
    clear A70
    replace H := Option.bind_eq_some_iff.mp H
    obtain ⟨t186, A80, H⟩ := H
    replace H : (if t186 = true then (if t182 = t184 then (some (t183 == t185)) else (some false)) else (some false)) = some r := H
    have A8 := Aside0.mk A80
    clear A80
    by_cases c9 : t186 = true
    · subst c9
      have H1 : (if t182 = t184 then (some (t183 == t185)) else (some false)) = some r := by rw [if_pos rfl] at H; exact H
      clear H
      have H := H1
      clear H1
      by_cases c10 : t182 = t184
      · rw [if_pos c10] at H
        have c10b0 : (t182 == t184) = true := beq_iff_eq.mpr c10
        have c10b1 : (t182 != t184) = false := bne_eq_false_iff_eq.mpr c10
        clear c10
        obtain rfl := Option.some.inj H
        go_enter Try.func3, Try.ntmps3
        go_wp2_with (first | ((with_reducible refine gate_callee (f := 10) rfl ?_); refine goesL_ (some 16) rfl rfl Try.func10 (by kernel_rfl) rfl #[.int .i64 a0, .slice A1 l1.length c1] rfl (by (try simp only [List.map_toArray, List.map_cons, List.map_nil]); first | done | rfl | (simp only [List.length_drop, List.length_take]; rfl)) ?_; (with_reducible refine (legal_Check.calls a0 _ _ l1 t182 t183 _ ?side1 ?side2 A6.out).mono ?_); (case side1 => repeat (first | exact HR1.out | (with_reducible refine Kd.C_alloc ?_ _) | (with_reducible refine Kd.C_drewN ?_ _) | (with_reducible refine Kd.C_drew ?_))); (case side2 => exact HC1.out); rintro e w11 ⟨rfl, hb⟩; refine ⟨_, rfl, ?_⟩; have n0_ := Aside0.mk (below_step (by repeat (first | (with_reducible first | exact HB.out | apply below_alloc | apply pw_below_drewN | apply below_drew1) | exact HB.out)) hb); clear HB; have HB := n0_; clear n0_; (try clear hb); (try clear hb2); (try clear hk); (try clear hi)) | ((with_reducible refine gate_callee (f := 11) rfl ?_); refine goesL_ (some 22) rfl rfl Try.func11 (by kernel_rfl) rfl #[.int .i64 a0, .slice A1 l1.length c1] rfl (by (try simp only [List.map_toArray, List.map_cons, List.map_nil]); first | done | rfl | (simp only [List.length_drop, List.length_take]; rfl)) ?_; (with_reducible refine (r14_Check.calls k a0 _ _ l1 t184 t185 _ ?side1 ?side2 A7.out).mono ?_); (case side1 => repeat (first | exact (Kd.C_below HR1.out HB.out) | (with_reducible refine Kd.C_alloc ?_ _) | (with_reducible refine Kd.C_drewN ?_ _) | (with_reducible refine Kd.C_drew ?_))); (case side2 => exact HC1.out); rintro e w12 ⟨rfl, hb⟩; refine ⟨_, rfl, ?_⟩; have n0_ := Aside0.mk (below_step (by repeat (first | (with_reducible first | exact HB.out | apply below_alloc | apply pw_below_drewN | apply below_drew1) | exact HB.out)) hb); clear HB; have HB := n0_; clear n0_; (try clear hb); (try clear hb2); (try clear hk); (try clear hi)) | ((with_reducible refine gate_callee (f := 9) rfl ?_); refine goesL_ (some 25) rfl rfl Try.func9 (by kernel_rfl) rfl #[] rfl (by (try simp only [List.map_toArray, List.map_cons, List.map_nil]); first | done | rfl | (simp only [List.length_drop, List.length_take]; rfl)) ?_; (with_reducible refine (passepartoutlaw14_alive.calls k  true _ A8.out).mono ?_); rintro e w13 ⟨rfl, hb⟩; refine ⟨_, rfl, ?_⟩; have n0_ := Aside0.mk (below_step (by repeat (first | (with_reducible first | exact HB.out | apply below_alloc | apply pw_below_drewN | apply below_drew1) | exact HB.out)) hb); clear HB; have HB := n0_; clear n0_; (try clear hb); (try clear hb2); (try clear hk); (try clear hi)))
        go_ret
        exact ⟨by first | rfl | (simp [errW_none, errW_some] <;> rfl) | (simp [*, errW_none, errW_some] <;> rfl), by repeat (first | (with_reducible first | exact HB.out | apply below_alloc | apply pw_below_drewN | apply below_drew1) | exact HB.out)⟩
      · rw [if_neg c10] at H
        have c10b0 : (t182 == t184) = false := beq_eq_false_iff_ne.mpr c10
        have c10b1 : (t182 != t184) = true := bne_iff_ne.mpr c10
        obtain rfl := Option.some.inj H
        go_enter Try.func3, Try.ntmps3
        go_wp2_with (first | ((with_reducible refine gate_callee (f := 10) rfl ?_); refine goesL_ (some 16) rfl rfl Try.func10 (by kernel_rfl) rfl #[.int .i64 a0, .slice A1 l1.length c1] rfl (by (try simp only [List.map_toArray, List.map_cons, List.map_nil]); first | done | rfl | (simp only [List.length_drop, List.length_take]; rfl)) ?_; (with_reducible refine (legal_Check.calls a0 _ _ l1 t182 t183 _ ?side1 ?side2 A6.out).mono ?_); (case side1 => repeat (first | exact HR1.out | (with_reducible refine Kd.C_alloc ?_ _) | (with_reducible refine Kd.C_drewN ?_ _) | (with_reducible refine Kd.C_drew ?_))); (case side2 => exact HC1.out); rintro e w14 ⟨rfl, hb⟩; refine ⟨_, rfl, ?_⟩; have n0_ := Aside0.mk (below_step (by repeat (first | (with_reducible first | exact HB.out | apply below_alloc | apply pw_below_drewN | apply below_drew1) | exact HB.out)) hb); clear HB; have HB := n0_; clear n0_; (try clear hb); (try clear hb2); (try clear hk); (try clear hi)) | ((with_reducible refine gate_callee (f := 11) rfl ?_); refine goesL_ (some 22) rfl rfl Try.func11 (by kernel_rfl) rfl #[.int .i64 a0, .slice A1 l1.length c1] rfl (by (try simp only [List.map_toArray, List.map_cons, List.map_nil]); first | done | rfl | (simp only [List.length_drop, List.length_take]; rfl)) ?_; (with_reducible refine (r14_Check.calls k a0 _ _ l1 t184 t185 _ ?side1 ?side2 A7.out).mono ?_); (case side1 => repeat (first | exact (Kd.C_below HR1.out HB.out) | (with_reducible refine Kd.C_alloc ?_ _) | (with_reducible refine Kd.C_drewN ?_ _) | (with_reducible refine Kd.C_drew ?_))); (case side2 => exact HC1.out); rintro e w15 ⟨rfl, hb⟩; refine ⟨_, rfl, ?_⟩; have n0_ := Aside0.mk (below_step (by repeat (first | (with_reducible first | exact HB.out | apply below_alloc | apply pw_below_drewN | apply below_drew1) | exact HB.out)) hb); clear HB; have HB := n0_; clear n0_; (try clear hb); (try clear hb2); (try clear hk); (try clear hi)) | ((with_reducible refine gate_callee (f := 9) rfl ?_); refine goesL_ (some 25) rfl rfl Try.func9 (by kernel_rfl) rfl #[] rfl (by (try simp only [List.map_toArray, List.map_cons, List.map_nil]); first | done | rfl | (simp only [List.length_drop, List.length_take]; rfl)) ?_; (with_reducible refine (passepartoutlaw14_alive.calls k  true _ A8.out).mono ?_); rintro e w16 ⟨rfl, hb⟩; refine ⟨_, rfl, ?_⟩; have n0_ := Aside0.mk (below_step (by repeat (first | (with_reducible first | exact HB.out | apply below_alloc | apply pw_below_drewN | apply below_drew1) | exact HB.out)) hb); clear HB; have HB := n0_; clear n0_; (try clear hb); (try clear hb2); (try clear hk); (try clear hi)))
        go_ret
        exact ⟨by first | rfl | (simp [errW_none, errW_some] <;> rfl) | (simp [*, errW_none, errW_some] <;> rfl), by repeat (first | (with_reducible first | exact HB.out | apply below_alloc | apply pw_below_drewN | apply below_drew1) | exact HB.out)⟩
    · replace c9 := Bool.eq_false_iff.mpr c9
      subst c9
      have H1 : (some false) = some r := by rw [if_neg (show ¬ (false = true) by decide)] at H; exact H
      clear H
      have H := H1
      clear H1
      obtain rfl := Option.some.inj H
      go_enter Try.func3, Try.ntmps3
      go_wp2_with (first | ((with_reducible refine gate_callee (f := 10) rfl ?_); refine goesL_ (some 16) rfl rfl Try.func10 (by kernel_rfl) rfl #[.int .i64 a0, .slice A1 l1.length c1] rfl (by (try simp only [List.map_toArray, List.map_cons, List.map_nil]); first | done | rfl | (simp only [List.length_drop, List.length_take]; rfl)) ?_; (with_reducible refine (legal_Check.calls a0 _ _ l1 t182 t183 _ ?side1 ?side2 A6.out).mono ?_); (case side1 => repeat (first | exact HR1.out | (with_reducible refine Kd.C_alloc ?_ _) | (with_reducible refine Kd.C_drewN ?_ _) | (with_reducible refine Kd.C_drew ?_))); (case side2 => exact HC1.out); rintro e w17 ⟨rfl, hb⟩; refine ⟨_, rfl, ?_⟩; have n0_ := Aside0.mk (below_step (by repeat (first | (with_reducible first | exact HB.out | apply below_alloc | apply pw_below_drewN | apply below_drew1) | exact HB.out)) hb); clear HB; have HB := n0_; clear n0_; (try clear hb); (try clear hb2); (try clear hk); (try clear hi)) | ((with_reducible refine gate_callee (f := 11) rfl ?_); refine goesL_ (some 22) rfl rfl Try.func11 (by kernel_rfl) rfl #[.int .i64 a0, .slice A1 l1.length c1] rfl (by (try simp only [List.map_toArray, List.map_cons, List.map_nil]); first | done | rfl | (simp only [List.length_drop, List.length_take]; rfl)) ?_; (with_reducible refine (r14_Check.calls k a0 _ _ l1 t184 t185 _ ?side1 ?side2 A7.out).mono ?_); (case side1 => repeat (first | exact (Kd.C_below HR1.out HB.out) | (with_reducible refine Kd.C_alloc ?_ _) | (with_reducible refine Kd.C_drewN ?_ _) | (with_reducible refine Kd.C_drew ?_))); (case side2 => exact HC1.out); rintro e w18 ⟨rfl, hb⟩; refine ⟨_, rfl, ?_⟩; have n0_ := Aside0.mk (below_step (by repeat (first | (with_reducible first | exact HB.out | apply below_alloc | apply pw_below_drewN | apply below_drew1) | exact HB.out)) hb); clear HB; have HB := n0_; clear n0_; (try clear hb); (try clear hb2); (try clear hk); (try clear hi)) | ((with_reducible refine gate_callee (f := 9) rfl ?_); refine goesL_ (some 25) rfl rfl Try.func9 (by kernel_rfl) rfl #[] rfl (by (try simp only [List.map_toArray, List.map_cons, List.map_nil]); first | done | rfl | (simp only [List.length_drop, List.length_take]; rfl)) ?_; (with_reducible refine (passepartoutlaw14_alive.calls k  false _ A8.out).mono ?_); rintro e w19 ⟨rfl, hb⟩; refine ⟨_, rfl, ?_⟩; have n0_ := Aside0.mk (below_step (by repeat (first | (with_reducible first | exact HB.out | apply below_alloc | apply pw_below_drewN | apply below_drew1) | exact HB.out)) hb); clear HB; have HB := n0_; clear n0_; (try clear hb); (try clear hb2); (try clear hk); (try clear hi)))
      go_ret
      exact ⟨by first | rfl | (simp [errW_none, errW_some] <;> rfl) | (simp [*, errW_none, errW_some] <;> rfl), by repeat (first | (with_reducible first | exact HB.out | apply below_alloc | apply pw_below_drewN | apply below_drew1) | exact HB.out)⟩

end Go.Proofs.Ytpndiobbogelpaa.PLegalChecks
