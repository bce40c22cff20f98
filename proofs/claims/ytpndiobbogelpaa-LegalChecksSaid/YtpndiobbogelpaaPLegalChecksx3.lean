-- Printed by a program of this session (wip/gen) out of the translation; contracts by hand stand in other texts.
import Derived.Test.YtpndiobbogelpaaPLegalChecksx0
namespace Go.Proofs.Ytpndiobbogelpaa.PLegalChecks
open Go.RowKit Go.Proofs.YtpndiobbogelpaaW.PrintWords Go.Proofs.YtpndiobbogelpaaW.PrintLast Go.Proofs.YtpndiobbogelpaaW.PrintMore
attribute [local go_sem] max2_int min2_int max_two min_two max_three min_three max_four min_four   -- for this text's walks alone
set_option linter.unusedVariables false
set_option linter.unusedSimpArgs false

def r14_Place.f (a0 : Int) : Option (Bool) := if a0 = 1 then (some true) else (if a0 = 2 then (some true) else (if a0 = 4 then (some true) else (if a0 = 6 then (some true) else (if a0 = 8 then (some true) else (if a0 = 11 then (some true) else (some (a0 == 13)))))))
set_option maxHeartbeats 8000000 in
set_option maxRecDepth 100000 in
theorem r14_Place.calls (a0 : Int) (r : Bool) (w : World) (h : r14_Place.f a0 = some r) :
    Calls Try.prog 15 #[.int .i64 a0] w fun e w' => e = .returned (.bool r) ∧ Drawn0 w w' := by
  have H : (if a0 = 1 then (some true) else (if a0 = 2 then (some true) else (if a0 = 4 then (some true) else (if a0 = 6 then (some true) else (if a0 = 8 then (some true) else (if a0 = 11 then (some true) else (some (a0 == 13)))))))) = some r := h
  clear h
  by_cases c2 : a0 = 1
  · rw [if_pos c2] at H
    have c2b0 : (a0 == 1) = true := beq_iff_eq.mpr c2
    have c2b1 : (a0 != 1) = false := bne_eq_false_iff_eq.mpr c2
    clear c2
    obtain rfl := Option.some.inj H
    go_enter Try.func15, Try.ntmps15
    go_wp2
    go_ret
    exact ⟨by first | rfl | (simp; done) | (simp [*]; done), by repeat (first | exact Drawn0.refl _ | apply Drawn0.step)⟩
  · rw [if_neg c2] at H
    have c2b0 : (a0 == 1) = false := beq_eq_false_iff_ne.mpr c2
    have c2b1 : (a0 != 1) = true := bne_iff_ne.mpr c2
    by_cases c3 : a0 = 2
    · rw [if_pos c3] at H
      have c3b0 : (a0 == 2) = true := beq_iff_eq.mpr c3
      have c3b1 : (a0 != 2) = false := bne_eq_false_iff_eq.mpr c3
      clear c3
      obtain rfl := Option.some.inj H
      go_enter Try.func15, Try.ntmps15
      go_wp2
      go_ret
      exact ⟨by first | rfl | (simp; done) | (simp [*]; done), by repeat (first | exact Drawn0.refl _ | apply Drawn0.step)⟩
    · rw [if_neg c3] at H
      have c3b0 : (a0 == 2) = false := beq_eq_false_iff_ne.mpr c3
      have c3b1 : (a0 != 2) = true := bne_iff_ne.mpr c3
      by_cases c4 : a0 = 4
      · rw [if_pos c4] at H
        have c4b0 : (a0 == 4) = true := beq_iff_eq.mpr c4
        have c4b1 : (a0 != 4) = false := bne_eq_false_iff_eq.mpr c4
        clear c4
        obtain rfl := Option.some.inj H
        go_enter Try.func15, Try.ntmps15
        go_wp2
        go_ret
        exact ⟨by first | rfl | (simp; done) | (simp [*]; done), by repeat (first | exact Drawn0.refl _ | apply Drawn0.step)⟩
      · rw [if_neg c4] at H
        have c4b0 : (a0 == 4) = false := beq_eq_false_iff_ne.mpr c4
        have c4b1 : (a0 != 4) = true := bne_iff_ne.mpr c4
        by_cases c5 : a0 = 6
        · rw [if_pos c5] at H
          have c5b0 : (a0 == 6) = true := beq_iff_eq.mpr c5
          have c5b1 : (a0 != 6) = false := bne_eq_false_iff_eq.mpr c5
          clear c5
          obtain rfl := Option.some.inj H
          go_enter Try.func15, Try.ntmps15
          go_wp2
          go_ret
          exact ⟨by first | rfl | (simp; done) | (simp [*]; done), by repeat (first | exact Drawn0.refl _ | apply Drawn0.step)⟩
        · rw [if_neg c5] at H
          have c5b0 : (a0 == 6) = false := beq_eq_false_iff_ne.mpr c5
          have c5b1 : (a0 != 6) = true := bne_iff_ne.mpr c5
          by_cases c6 : a0 = 8
          · rw [if_pos c6] at H
            have c6b0 : (a0 == 8) = true := beq_iff_eq.mpr c6
            have c6b1 : (a0 != 8) = false := bne_eq_false_iff_eq.mpr c6
            clear c6
            obtain rfl := Option.some.inj H
            go_enter Try.func15, Try.ntmps15
            go_wp2
            go_ret
            exact ⟨by first | rfl | (simp; done) | (simp [*]; done), by repeat (first | exact Drawn0.refl _ | apply Drawn0.step)⟩
          · rw [if_neg c6] at H
            have c6b0 : (a0 == 8) = false := beq_eq_false_iff_ne.mpr c6
            have c6b1 : (a0 != 8) = true := bne_iff_ne.mpr c6
            by_cases c7 : a0 = 11
            · rw [if_pos c7] at H
              have c7b0 : (a0 == 11) = true := beq_iff_eq.mpr c7
              have c7b1 : (a0 != 11) = false := bne_eq_false_iff_eq.mpr c7
              clear c7
              obtain rfl := Option.some.inj H
              go_enter Try.func15, Try.ntmps15
              go_wp2
              go_ret
              exact ⟨by first | rfl | (simp; done) | (simp [*]; done), by repeat (first | exact Drawn0.refl _ | apply Drawn0.step)⟩
            · rw [if_neg c7] at H
              have c7b0 : (a0 == 11) = false := beq_eq_false_iff_ne.mpr c7
              have c7b1 : (a0 != 11) = true := bne_iff_ne.mpr c7
              obtain rfl := Option.some.inj H
              go_enter Try.func15, Try.ntmps15
              go_wp2
              go_ret
              exact ⟨by first | rfl | (simp; done) | (simp [*]; done), by repeat (first | exact Drawn0.refl _ | apply Drawn0.step)⟩

def passepartoutref08_All.f (a0 : Int) : Option ((List (S50))) := if a0 = 0 then (some (([(⟨20, (⟨#[99, 104, 97, 110, 103, 101, 95, 99, 105, 112, 104, 101, 114, 95, 115, 112, 101, 99]⟩ : ByteArray)⟩ : S50), (⟨21, (⟨#[97, 108, 101, 114, 116]⟩ : ByteArray)⟩ : S50), (⟨22, (⟨#[104, 97, 110, 100, 115, 104, 97, 107, 101]⟩ : ByteArray)⟩ : S50), (⟨23, (⟨#[97, 112, 112, 108, 105, 99, 97, 116, 105, 111, 110, 95, 100, 97, 116, 97]⟩ : ByteArray)⟩ : S50)] : List (S50)))) else (if a0 = 1 then (some (([(⟨1, (⟨#[99, 108, 105, 101, 110, 116, 95, 104, 101, 108, 108, 111]⟩ : ByteArray)⟩ : S50), (⟨2, (⟨#[115, 101, 114, 118, 101, 114, 95, 104, 101, 108, 108, 111]⟩ : ByteArray)⟩ : S50), (⟨4, (⟨#[110, 101, 119, 95, 115, 101, 115, 115, 105, 111, 110, 95, 116, 105, 99, 107, 101, 116]⟩ : ByteArray)⟩ : S50), (⟨5, (⟨#[101, 110, 100, 95, 111, 102, 95, 101, 97, 114, 108, 121, 95, 100, 97, 116, 97]⟩ : ByteArray)⟩ : S50), (⟨8, (⟨#[101, 110, 99, 114, 121, 112, 116, 101, 100, 95, 101, 120, 116, 101, 110, 115, 105, 111, 110, 115]⟩ : ByteArray)⟩ : S50), (⟨11, (⟨#[99, 101, 114, 116, 105, 102, 105, 99, 97, 116, 101]⟩ : ByteArray)⟩ : S50), (⟨13, (⟨#[99, 101, 114, 116, 105, 102, 105, 99, 97, 116, 101, 95, 114, 101, 113, 117, 101, 115, 116]⟩ : ByteArray)⟩ : S50), (⟨15, (⟨#[99, 101, 114, 116, 105, 102, 105, 99, 97, 116, 101, 95, 118, 101, 114, 105, 102, 121]⟩ : ByteArray)⟩ : S50), (⟨20, (⟨#[102, 105, 110, 105, 115, 104, 101, 100]⟩ : ByteArray)⟩ : S50), (⟨24, (⟨#[107, 101, 121, 95, 117, 112, 100, 97, 116, 101]⟩ : ByteArray)⟩ : S50)] : List (S50)))) else (if a0 = 2 then (some (([(⟨0, (⟨#[115, 101, 114, 118, 101, 114, 95, 110, 97, 109, 101]⟩ : ByteArray)⟩ : S50), (⟨1, (⟨#[109, 97, 120, 95, 102, 114, 97, 103, 109, 101, 110, 116, 95, 108, 101, 110, 103, 116, 104]⟩ : ByteArray)⟩ : S50), (⟨5, (⟨#[115, 116, 97, 116, 117, 115, 95, 114, 101, 113, 117, 101, 115, 116]⟩ : ByteArray)⟩ : S50), (⟨10, (⟨#[115, 117, 112, 112, 111, 114, 116, 101, 100, 95, 103, 114, 111, 117, 112, 115]⟩ : ByteArray)⟩ : S50), (⟨13, (⟨#[115, 105, 103, 110, 97, 116, 117, 114, 101, 95, 97, 108, 103, 111, 114, 105, 116, 104, 109, 115]⟩ : ByteArray)⟩ : S50), (⟨14, (⟨#[117, 115, 101, 95, 115, 114, 116, 112]⟩ : ByteArray)⟩ : S50), (⟨15, (⟨#[104, 101, 97, 114, 116, 98, 101, 97, 116]⟩ : ByteArray)⟩ : S50), (⟨16, (⟨#[97, 112, 112, 108, 105, 99, 97, 116, 105, 111, 110, 95, 108, 97, 121, 101, 114, 95, 112, 114, 111, 116, 111, 99, 111, 108, 95, 110, 101, 103, 111, 116, 105, 97, 116, 105, 111, 110]⟩ : ByteArray)⟩ : S50), (⟨18, (⟨#[115, 105, 103, 110, 101, 100, 95, 99, 101, 114, 116, 105, 102, 105, 99, 97, 116, 101, 95, 116, 105, 109, 101, 115, 116, 97, 109, 112]⟩ : ByteArray)⟩ : S50), (⟨19, (⟨#[99, 108, 105, 101, 110, 116, 95, 99, 101, 114, 116, 105, 102, 105, 99, 97, 116, 101, 95, 116, 121, 112, 101]⟩ : ByteArray)⟩ : S50), (⟨20, (⟨#[115, 101, 114, 118, 101, 114, 95, 99, 101, 114, 116, 105, 102, 105, 99, 97, 116, 101, 95, 116, 121, 112, 101]⟩ : ByteArray)⟩ : S50), (⟨21, (⟨#[112, 97, 100, 100, 105, 110, 103]⟩ : ByteArray)⟩ : S50), (⟨41, (⟨#[112, 114, 101, 95, 115, 104, 97, 114, 101, 100, 95, 107, 101, 121]⟩ : ByteArray)⟩ : S50), (⟨42, (⟨#[101, 97, 114, 108, 121, 95, 100, 97, 116, 97]⟩ : ByteArray)⟩ : S50), (⟨43, (⟨#[115, 117, 112, 112, 111, 114, 116, 101, 100, 95, 118, 101, 114, 115, 105, 111, 110, 115]⟩ : ByteArray)⟩ : S50), (⟨44, (⟨#[99, 111, 111, 107, 105, 101]⟩ : ByteArray)⟩ : S50), (⟨45, (⟨#[112, 115, 107, 95, 107, 101, 121, 95, 101, 120, 99, 104, 97, 110, 103, 101, 95, 109, 111, 100, 101, 115]⟩ : ByteArray)⟩ : S50), (⟨47, (⟨#[99, 101, 114, 116, 105, 102, 105, 99, 97, 116, 101, 95, 97, 117, 116, 104, 111, 114, 105, 116, 105, 101, 115]⟩ : ByteArray)⟩ : S50), (⟨48, (⟨#[111, 105, 100, 95, 102, 105, 108, 116, 101, 114, 115]⟩ : ByteArray)⟩ : S50), (⟨49, (⟨#[112, 111, 115, 116, 95, 104, 97, 110, 100, 115, 104, 97, 107, 101, 95, 97, 117, 116, 104]⟩ : ByteArray)⟩ : S50), (⟨50, (⟨#[115, 105, 103, 110, 97, 116, 117, 114, 101, 95, 97, 108, 103, 111, 114, 105, 116, 104, 109, 115, 95, 99, 101, 114, 116]⟩ : ByteArray)⟩ : S50), (⟨51, (⟨#[107, 101, 121, 95, 115, 104, 97, 114, 101]⟩ : ByteArray)⟩ : S50)] : List (S50)))) else (some ([] : List (S50)))))
set_option maxHeartbeats 8000000 in
set_option maxRecDepth 100000 in
theorem passepartoutref08_All.calls (a0 : Int) (r : List (S50)) (w : World) (h : passepartoutref08_All.f a0 = some r) :
    Calls Try.prog 20 #[.int .i64 a0] w fun e w' => ∃ v0_ : Value, e = .returned (v0_) ∧ Kd.R k50 50 w' w.heap.size (fun _ => True) v0_ r ∧ Below w.heap.size w w' := by
  have hu50 := Try.underlying50
  have HB := Aside0.mk (Below.refl w.heap.size w)
  have H : (if a0 = 0 then (some (([(⟨20, (⟨#[99, 104, 97, 110, 103, 101, 95, 99, 105, 112, 104, 101, 114, 95, 115, 112, 101, 99]⟩ : ByteArray)⟩ : S50), (⟨21, (⟨#[97, 108, 101, 114, 116]⟩ : ByteArray)⟩ : S50), (⟨22, (⟨#[104, 97, 110, 100, 115, 104, 97, 107, 101]⟩ : ByteArray)⟩ : S50), (⟨23, (⟨#[97, 112, 112, 108, 105, 99, 97, 116, 105, 111, 110, 95, 100, 97, 116, 97]⟩ : ByteArray)⟩ : S50)] : List (S50)))) else (if a0 = 1 then (some (([(⟨1, (⟨#[99, 108, 105, 101, 110, 116, 95, 104, 101, 108, 108, 111]⟩ : ByteArray)⟩ : S50), (⟨2, (⟨#[115, 101, 114, 118, 101, 114, 95, 104, 101, 108, 108, 111]⟩ : ByteArray)⟩ : S50), (⟨4, (⟨#[110, 101, 119, 95, 115, 101, 115, 115, 105, 111, 110, 95, 116, 105, 99, 107, 101, 116]⟩ : ByteArray)⟩ : S50), (⟨5, (⟨#[101, 110, 100, 95, 111, 102, 95, 101, 97, 114, 108, 121, 95, 100, 97, 116, 97]⟩ : ByteArray)⟩ : S50), (⟨8, (⟨#[101, 110, 99, 114, 121, 112, 116, 101, 100, 95, 101, 120, 116, 101, 110, 115, 105, 111, 110, 115]⟩ : ByteArray)⟩ : S50), (⟨11, (⟨#[99, 101, 114, 116, 105, 102, 105, 99, 97, 116, 101]⟩ : ByteArray)⟩ : S50), (⟨13, (⟨#[99, 101, 114, 116, 105, 102, 105, 99, 97, 116, 101, 95, 114, 101, 113, 117, 101, 115, 116]⟩ : ByteArray)⟩ : S50), (⟨15, (⟨#[99, 101, 114, 116, 105, 102, 105, 99, 97, 116, 101, 95, 118, 101, 114, 105, 102, 121]⟩ : ByteArray)⟩ : S50), (⟨20, (⟨#[102, 105, 110, 105, 115, 104, 101, 100]⟩ : ByteArray)⟩ : S50), (⟨24, (⟨#[107, 101, 121, 95, 117, 112, 100, 97, 116, 101]⟩ : ByteArray)⟩ : S50)] : List (S50)))) else (if a0 = 2 then (some (([(⟨0, (⟨#[115, 101, 114, 118, 101, 114, 95, 110, 97, 109, 101]⟩ : ByteArray)⟩ : S50), (⟨1, (⟨#[109, 97, 120, 95, 102, 114, 97, 103, 109, 101, 110, 116, 95, 108, 101, 110, 103, 116, 104]⟩ : ByteArray)⟩ : S50), (⟨5, (⟨#[115, 116, 97, 116, 117, 115, 95, 114, 101, 113, 117, 101, 115, 116]⟩ : ByteArray)⟩ : S50), (⟨10, (⟨#[115, 117, 112, 112, 111, 114, 116, 101, 100, 95, 103, 114, 111, 117, 112, 115]⟩ : ByteArray)⟩ : S50), (⟨13, (⟨#[115, 105, 103, 110, 97, 116, 117, 114, 101, 95, 97, 108, 103, 111, 114, 105, 116, 104, 109, 115]⟩ : ByteArray)⟩ : S50), (⟨14, (⟨#[117, 115, 101, 95, 115, 114, 116, 112]⟩ : ByteArray)⟩ : S50), (⟨15, (⟨#[104, 101, 97, 114, 116, 98, 101, 97, 116]⟩ : ByteArray)⟩ : S50), (⟨16, (⟨#[97, 112, 112, 108, 105, 99, 97, 116, 105, 111, 110, 95, 108, 97, 121, 101, 114, 95, 112, 114, 111, 116, 111, 99, 111, 108, 95, 110, 101, 103, 111, 116, 105, 97, 116, 105, 111, 110]⟩ : ByteArray)⟩ : S50), (⟨18, (⟨#[115, 105, 103, 110, 101, 100, 95, 99, 101, 114, 116, 105, 102, 105, 99, 97, 116, 101, 95, 116, 105, 109, 101, 115, 116, 97, 109, 112]⟩ : ByteArray)⟩ : S50), (⟨19, (⟨#[99, 108, 105, 101, 110, 116, 95, 99, 101, 114, 116, 105, 102, 105, 99, 97, 116, 101, 95, 116, 121, 112, 101]⟩ : ByteArray)⟩ : S50), (⟨20, (⟨#[115, 101, 114, 118, 101, 114, 95, 99, 101, 114, 116, 105, 102, 105, 99, 97, 116, 101, 95, 116, 121, 112, 101]⟩ : ByteArray)⟩ : S50), (⟨21, (⟨#[112, 97, 100, 100, 105, 110, 103]⟩ : ByteArray)⟩ : S50), (⟨41, (⟨#[112, 114, 101, 95, 115, 104, 97, 114, 101, 100, 95, 107, 101, 121]⟩ : ByteArray)⟩ : S50), (⟨42, (⟨#[101, 97, 114, 108, 121, 95, 100, 97, 116, 97]⟩ : ByteArray)⟩ : S50), (⟨43, (⟨#[115, 117, 112, 112, 111, 114, 116, 101, 100, 95, 118, 101, 114, 115, 105, 111, 110, 115]⟩ : ByteArray)⟩ : S50), (⟨44, (⟨#[99, 111, 111, 107, 105, 101]⟩ : ByteArray)⟩ : S50), (⟨45, (⟨#[112, 115, 107, 95, 107, 101, 121, 95, 101, 120, 99, 104, 97, 110, 103, 101, 95, 109, 111, 100, 101, 115]⟩ : ByteArray)⟩ : S50), (⟨47, (⟨#[99, 101, 114, 116, 105, 102, 105, 99, 97, 116, 101, 95, 97, 117, 116, 104, 111, 114, 105, 116, 105, 101, 115]⟩ : ByteArray)⟩ : S50), (⟨48, (⟨#[111, 105, 100, 95, 102, 105, 108, 116, 101, 114, 115]⟩ : ByteArray)⟩ : S50), (⟨49, (⟨#[112, 111, 115, 116, 95, 104, 97, 110, 100, 115, 104, 97, 107, 101, 95, 97, 117, 116, 104]⟩ : ByteArray)⟩ : S50), (⟨50, (⟨#[115, 105, 103, 110, 97, 116, 117, 114, 101, 95, 97, 108, 103, 111, 114, 105, 116, 104, 109, 115, 95, 99, 101, 114, 116]⟩ : ByteArray)⟩ : S50), (⟨51, (⟨#[107, 101, 121, 95, 115, 104, 97, 114, 101]⟩ : ByteArray)⟩ : S50)] : List (S50)))) else (some ([] : List (S50)))))) = some r := h
  clear h
  by_cases c2 : a0 = 0
  · rw [if_pos c2] at H
    have c2b0 : (a0 == 0) = true := beq_iff_eq.mpr c2
    have c2b1 : (a0 != 0) = false := bne_eq_false_iff_eq.mpr c2
    clear c2
    obtain ⟨y145, hy145⟩ : ∃ y_ : List (S50), y_ = (([(⟨20, (⟨#[99, 104, 97, 110, 103, 101, 95, 99, 105, 112, 104, 101, 114, 95, 115, 112, 101, 99]⟩ : ByteArray)⟩ : S50), (⟨21, (⟨#[97, 108, 101, 114, 116]⟩ : ByteArray)⟩ : S50), (⟨22, (⟨#[104, 97, 110, 100, 115, 104, 97, 107, 101]⟩ : ByteArray)⟩ : S50), (⟨23, (⟨#[97, 112, 112, 108, 105, 99, 97, 116, 105, 111, 110, 95, 100, 97, 116, 97]⟩ : ByteArray)⟩ : S50)] : List (S50))) := ⟨_, rfl⟩
    replace H : (some y145) = some r := by first | (rw [hy145]; with_reducible exact H) | (have H2_ := (Option.bind_some _ _).symm.trans H; rw [hy145]; with_reducible exact H2_) | (have H2_ := (Option.bind_some _ _).symm.trans H; with_reducible exact H2_) | with_reducible exact H | (rw [hy145]; exact H) | exact H
    have Ny145 := Aside0.mk hy145
    clear hy145
    obtain rfl := Option.some.inj H
    go_enter Try.func20, Try.ntmps20
    go_wp2_with (first | ((with_reducible refine gate_dst (N := 10) rfl ?_); refine Kd.R_lit k50 _ 50 ?hg (N := 10) ?hd (xs := ([(⟨20, (⟨#[99, 104, 97, 110, 103, 101, 95, 99, 105, 112, 104, 101, 114, 95, 115, 112, 101, 99]⟩ : ByteArray)⟩ : S50), (⟨21, (⟨#[97, 108, 101, 114, 116]⟩ : ByteArray)⟩ : S50), (⟨22, (⟨#[104, 97, 110, 100, 115, 104, 97, 107, 101]⟩ : ByteArray)⟩ : S50), (⟨23, (⟨#[97, 112, 112, 108, 105, 99, 97, 116, 105, 111, 110, 95, 100, 97, 116, 97]⟩ : ByteArray)⟩ : S50)] : List (S50))) (inner := [.int .i64 20, .string (⟨#[99, 104, 97, 110, 103, 101, 95, 99, 105, 112, 104, 101, 114, 95, 115, 112, 101, 99]⟩ : ByteArray), .int .i64 21, .string (⟨#[97, 108, 101, 114, 116]⟩ : ByteArray), .int .i64 22, .string (⟨#[104, 97, 110, 100, 115, 104, 97, 107, 101]⟩ : ByteArray), .int .i64 23, .string (⟨#[97, 112, 112, 108, 105, 99, 97, 116, 105, 111, 110, 95, 100, 97, 116, 97]⟩ : ByteArray)]) (ok := fun _ => True) (okp := fun _ => True) ?hr ?hp (fun _ hk => hk) trivial (Below.refl _ _) (Nat.le_refl _) (by simp) ?_; (case hd => rfl); (case hg => rfl); (case hr => first | (go_simp; done) | (go_simp; rfl)); (case hp => exact (Reps.c2 (show Kd.M k50 _ _ _ (⟨20, (⟨#[99, 104, 97, 110, 103, 101, 95, 99, 105, 112, 104, 101, 114, 95, 115, 112, 101, 99]⟩ : ByteArray)⟩ : S50) [.int .i64 20, .string (⟨#[99, 104, 97, 110, 103, 101, 95, 99, 105, 112, 104, 101, 114, 95, 115, 112, 101, 99]⟩ : ByteArray)] from (k50_mkM _ _ _ (⟨20, (⟨#[99, 104, 97, 110, 103, 101, 95, 99, 105, 112, 104, 101, 114, 95, 115, 112, 101, 99]⟩ : ByteArray)⟩ : S50) )) (Reps.c2 (show Kd.M k50 _ _ _ (⟨21, (⟨#[97, 108, 101, 114, 116]⟩ : ByteArray)⟩ : S50) [.int .i64 21, .string (⟨#[97, 108, 101, 114, 116]⟩ : ByteArray)] from (k50_mkM _ _ _ (⟨21, (⟨#[97, 108, 101, 114, 116]⟩ : ByteArray)⟩ : S50) )) (Reps.c2 (show Kd.M k50 _ _ _ (⟨22, (⟨#[104, 97, 110, 100, 115, 104, 97, 107, 101]⟩ : ByteArray)⟩ : S50) [.int .i64 22, .string (⟨#[104, 97, 110, 100, 115, 104, 97, 107, 101]⟩ : ByteArray)] from (k50_mkM _ _ _ (⟨22, (⟨#[104, 97, 110, 100, 115, 104, 97, 107, 101]⟩ : ByteArray)⟩ : S50) )) (Reps.c2 (show Kd.M k50 _ _ _ (⟨23, (⟨#[97, 112, 112, 108, 105, 99, 97, 116, 105, 111, 110, 95, 100, 97, 116, 97]⟩ : ByteArray)⟩ : S50) [.int .i64 23, .string (⟨#[97, 112, 112, 108, 105, 99, 97, 116, 105, 111, 110, 95, 100, 97, 116, 97]⟩ : ByteArray)] from (k50_mkM _ _ _ (⟨23, (⟨#[97, 112, 112, 108, 105, 99, 97, 116, 105, 111, 110, 95, 100, 97, 116, 97]⟩ : ByteArray)⟩ : S50) )) (Reps.none _ _)))))); intro v146 w3 ho4 hb hg_ hnew_; clear hg_ hnew_; (first | rw [← Ny145.out] at ho4 | (simp only [Int.reduceToNat] at ho4; rw [← Ny145.out] at ho4)); have n0_ := Aside0.mk (Kd.R_lower ho4 (below_size (by repeat (first | (with_reducible first | exact HB.out | apply below_alloc | apply pw_below_drewN | apply below_drew1) | exact HB.out)))); have n1_ := Aside0.mk (below_step (by repeat (first | (with_reducible first | exact HB.out | apply below_alloc | apply pw_below_drewN | apply below_drew1) | exact HB.out)) hb); clear HB; have HO147 := n0_; have HB := n1_; clear n0_ n1_; clear hb ho4))
    go_ret
    exact ⟨_, by first | rfl | (simp [errW_none, errW_some] <;> rfl) | (simp [*, errW_none, errW_some] <;> rfl), by (with_reducible repeat (first | apply Kd.R_alloc | apply Kd.R_drewN | apply Kd.R_drew)); exact HO147.out, by repeat (first | (with_reducible first | exact HB.out | apply below_alloc | apply pw_below_drewN | apply below_drew1) | exact HB.out)⟩
  · rw [if_neg c2] at H
    have c2b0 : (a0 == 0) = false := beq_eq_false_iff_ne.mpr c2
    have c2b1 : (a0 != 0) = true := bne_iff_ne.mpr c2
    by_cases c5 : a0 = 1
    · rw [if_pos c5] at H
      have c5b0 : (a0 == 1) = true := beq_iff_eq.mpr c5
      have c5b1 : (a0 != 1) = false := bne_eq_false_iff_eq.mpr c5
      clear c5
      obtain ⟨y148, hy148⟩ : ∃ y_ : List (S50), y_ = (([(⟨1, (⟨#[99, 108, 105, 101, 110, 116, 95, 104, 101, 108, 108, 111]⟩ : ByteArray)⟩ : S50), (⟨2, (⟨#[115, 101, 114, 118, 101, 114, 95, 104, 101, 108, 108, 111]⟩ : ByteArray)⟩ : S50), (⟨4, (⟨#[110, 101, 119, 95, 115, 101, 115, 115, 105, 111, 110, 95, 116, 105, 99, 107, 101, 116]⟩ : ByteArray)⟩ : S50), (⟨5, (⟨#[101, 110, 100, 95, 111, 102, 95, 101, 97, 114, 108, 121, 95, 100, 97, 116, 97]⟩ : ByteArray)⟩ : S50), (⟨8, (⟨#[101, 110, 99, 114, 121, 112, 116, 101, 100, 95, 101, 120, 116, 101, 110, 115, 105, 111, 110, 115]⟩ : ByteArray)⟩ : S50), (⟨11, (⟨#[99, 101, 114, 116, 105, 102, 105, 99, 97, 116, 101]⟩ : ByteArray)⟩ : S50), (⟨13, (⟨#[99, 101, 114, 116, 105, 102, 105, 99, 97, 116, 101, 95, 114, 101, 113, 117, 101, 115, 116]⟩ : ByteArray)⟩ : S50), (⟨15, (⟨#[99, 101, 114, 116, 105, 102, 105, 99, 97, 116, 101, 95, 118, 101, 114, 105, 102, 121]⟩ : ByteArray)⟩ : S50), (⟨20, (⟨#[102, 105, 110, 105, 115, 104, 101, 100]⟩ : ByteArray)⟩ : S50), (⟨24, (⟨#[107, 101, 121, 95, 117, 112, 100, 97, 116, 101]⟩ : ByteArray)⟩ : S50)] : List (S50))) := ⟨_, rfl⟩
      replace H : (some y148) = some r := by first | (rw [hy148]; with_reducible exact H) | (have H2_ := (Option.bind_some _ _).symm.trans H; rw [hy148]; with_reducible exact H2_) | (have H2_ := (Option.bind_some _ _).symm.trans H; with_reducible exact H2_) | with_reducible exact H | (rw [hy148]; exact H) | exact H
      have Ny148 := Aside0.mk hy148
      clear hy148
      obtain rfl := Option.some.inj H
      go_enter Try.func20, Try.ntmps20
      go_wp2_with (first | ((with_reducible refine gate_dst (N := 23) rfl ?_); refine Kd.R_lit k50 _ 50 ?hg (N := 23) ?hd (xs := ([(⟨1, (⟨#[99, 108, 105, 101, 110, 116, 95, 104, 101, 108, 108, 111]⟩ : ByteArray)⟩ : S50), (⟨2, (⟨#[115, 101, 114, 118, 101, 114, 95, 104, 101, 108, 108, 111]⟩ : ByteArray)⟩ : S50), (⟨4, (⟨#[110, 101, 119, 95, 115, 101, 115, 115, 105, 111, 110, 95, 116, 105, 99, 107, 101, 116]⟩ : ByteArray)⟩ : S50), (⟨5, (⟨#[101, 110, 100, 95, 111, 102, 95, 101, 97, 114, 108, 121, 95, 100, 97, 116, 97]⟩ : ByteArray)⟩ : S50), (⟨8, (⟨#[101, 110, 99, 114, 121, 112, 116, 101, 100, 95, 101, 120, 116, 101, 110, 115, 105, 111, 110, 115]⟩ : ByteArray)⟩ : S50), (⟨11, (⟨#[99, 101, 114, 116, 105, 102, 105, 99, 97, 116, 101]⟩ : ByteArray)⟩ : S50), (⟨13, (⟨#[99, 101, 114, 116, 105, 102, 105, 99, 97, 116, 101, 95, 114, 101, 113, 117, 101, 115, 116]⟩ : ByteArray)⟩ : S50), (⟨15, (⟨#[99, 101, 114, 116, 105, 102, 105, 99, 97, 116, 101, 95, 118, 101, 114, 105, 102, 121]⟩ : ByteArray)⟩ : S50), (⟨20, (⟨#[102, 105, 110, 105, 115, 104, 101, 100]⟩ : ByteArray)⟩ : S50), (⟨24, (⟨#[107, 101, 121, 95, 117, 112, 100, 97, 116, 101]⟩ : ByteArray)⟩ : S50)] : List (S50))) (inner := [.int .i64 1, .string (⟨#[99, 108, 105, 101, 110, 116, 95, 104, 101, 108, 108, 111]⟩ : ByteArray), .int .i64 2, .string (⟨#[115, 101, 114, 118, 101, 114, 95, 104, 101, 108, 108, 111]⟩ : ByteArray), .int .i64 4, .string (⟨#[110, 101, 119, 95, 115, 101, 115, 115, 105, 111, 110, 95, 116, 105, 99, 107, 101, 116]⟩ : ByteArray), .int .i64 5, .string (⟨#[101, 110, 100, 95, 111, 102, 95, 101, 97, 114, 108, 121, 95, 100, 97, 116, 97]⟩ : ByteArray), .int .i64 8, .string (⟨#[101, 110, 99, 114, 121, 112, 116, 101, 100, 95, 101, 120, 116, 101, 110, 115, 105, 111, 110, 115]⟩ : ByteArray), .int .i64 11, .string (⟨#[99, 101, 114, 116, 105, 102, 105, 99, 97, 116, 101]⟩ : ByteArray), .int .i64 13, .string (⟨#[99, 101, 114, 116, 105, 102, 105, 99, 97, 116, 101, 95, 114, 101, 113, 117, 101, 115, 116]⟩ : ByteArray), .int .i64 15, .string (⟨#[99, 101, 114, 116, 105, 102, 105, 99, 97, 116, 101, 95, 118, 101, 114, 105, 102, 121]⟩ : ByteArray), .int .i64 20, .string (⟨#[102, 105, 110, 105, 115, 104, 101, 100]⟩ : ByteArray), .int .i64 24, .string (⟨#[107, 101, 121, 95, 117, 112, 100, 97, 116, 101]⟩ : ByteArray)]) (ok := fun _ => True) (okp := fun _ => True) ?hr ?hp (fun _ hk => hk) trivial (Below.refl _ _) (Nat.le_refl _) (by simp) ?_; (case hd => rfl); (case hg => rfl); (case hr => first | (go_simp; done) | (go_simp; rfl)); (case hp => exact (Reps.c2 (show Kd.M k50 _ _ _ (⟨1, (⟨#[99, 108, 105, 101, 110, 116, 95, 104, 101, 108, 108, 111]⟩ : ByteArray)⟩ : S50) [.int .i64 1, .string (⟨#[99, 108, 105, 101, 110, 116, 95, 104, 101, 108, 108, 111]⟩ : ByteArray)] from (k50_mkM _ _ _ (⟨1, (⟨#[99, 108, 105, 101, 110, 116, 95, 104, 101, 108, 108, 111]⟩ : ByteArray)⟩ : S50) )) (Reps.c2 (show Kd.M k50 _ _ _ (⟨2, (⟨#[115, 101, 114, 118, 101, 114, 95, 104, 101, 108, 108, 111]⟩ : ByteArray)⟩ : S50) [.int .i64 2, .string (⟨#[115, 101, 114, 118, 101, 114, 95, 104, 101, 108, 108, 111]⟩ : ByteArray)] from (k50_mkM _ _ _ (⟨2, (⟨#[115, 101, 114, 118, 101, 114, 95, 104, 101, 108, 108, 111]⟩ : ByteArray)⟩ : S50) )) (Reps.c2 (show Kd.M k50 _ _ _ (⟨4, (⟨#[110, 101, 119, 95, 115, 101, 115, 115, 105, 111, 110, 95, 116, 105, 99, 107, 101, 116]⟩ : ByteArray)⟩ : S50) [.int .i64 4, .string (⟨#[110, 101, 119, 95, 115, 101, 115, 115, 105, 111, 110, 95, 116, 105, 99, 107, 101, 116]⟩ : ByteArray)] from (k50_mkM _ _ _ (⟨4, (⟨#[110, 101, 119, 95, 115, 101, 115, 115, 105, 111, 110, 95, 116, 105, 99, 107, 101, 116]⟩ : ByteArray)⟩ : S50) )) (Reps.c2 (show Kd.M k50 _ _ _ (⟨5, (⟨#[101, 110, 100, 95, 111, 102, 95, 101, 97, 114, 108, 121, 95, 100, 97, 116, 97]⟩ : ByteArray)⟩ : S50) [.int .i64 5, .string (⟨#[101, 110, 100, 95, 111, 102, 95, 101, 97, 114, 108, 121, 95, 100, 97, 116, 97]⟩ : ByteArray)] from (k50_mkM _ _ _ (⟨5, (⟨#[101, 110, 100, 95, 111, 102, 95, 101, 97, 114, 108, 121, 95, 100, 97, 116, 97]⟩ : ByteArray)⟩ : S50) )) (Reps.c2 (show Kd.M k50 _ _ _ (⟨8, (⟨#[101, 110, 99, 114, 121, 112, 116, 101, 100, 95, 101, 120, 116, 101, 110, 115, 105, 111, 110, 115]⟩ : ByteArray)⟩ : S50) [.int .i64 8, .string (⟨#[101, 110, 99, 114, 121, 112, 116, 101, 100, 95, 101, 120, 116, 101, 110, 115, 105, 111, 110, 115]⟩ : ByteArray)] from (k50_mkM _ _ _ (⟨8, (⟨#[101, 110, 99, 114, 121, 112, 116, 101, 100, 95, 101, 120, 116, 101, 110, 115, 105, 111, 110, 115]⟩ : ByteArray)⟩ : S50) )) (Reps.c2 (show Kd.M k50 _ _ _ (⟨11, (⟨#[99, 101, 114, 116, 105, 102, 105, 99, 97, 116, 101]⟩ : ByteArray)⟩ : S50) [.int .i64 11, .string (⟨#[99, 101, 114, 116, 105, 102, 105, 99, 97, 116, 101]⟩ : ByteArray)] from (k50_mkM _ _ _ (⟨11, (⟨#[99, 101, 114, 116, 105, 102, 105, 99, 97, 116, 101]⟩ : ByteArray)⟩ : S50) )) (Reps.c2 (show Kd.M k50 _ _ _ (⟨13, (⟨#[99, 101, 114, 116, 105, 102, 105, 99, 97, 116, 101, 95, 114, 101, 113, 117, 101, 115, 116]⟩ : ByteArray)⟩ : S50) [.int .i64 13, .string (⟨#[99, 101, 114, 116, 105, 102, 105, 99, 97, 116, 101, 95, 114, 101, 113, 117, 101, 115, 116]⟩ : ByteArray)] from (k50_mkM _ _ _ (⟨13, (⟨#[99, 101, 114, 116, 105, 102, 105, 99, 97, 116, 101, 95, 114, 101, 113, 117, 101, 115, 116]⟩ : ByteArray)⟩ : S50) )) (Reps.c2 (show Kd.M k50 _ _ _ (⟨15, (⟨#[99, 101, 114, 116, 105, 102, 105, 99, 97, 116, 101, 95, 118, 101, 114, 105, 102, 121]⟩ : ByteArray)⟩ : S50) [.int .i64 15, .string (⟨#[99, 101, 114, 116, 105, 102, 105, 99, 97, 116, 101, 95, 118, 101, 114, 105, 102, 121]⟩ : ByteArray)] from (k50_mkM _ _ _ (⟨15, (⟨#[99, 101, 114, 116, 105, 102, 105, 99, 97, 116, 101, 95, 118, 101, 114, 105, 102, 121]⟩ : ByteArray)⟩ : S50) )) (Reps.c2 (show Kd.M k50 _ _ _ (⟨20, (⟨#[102, 105, 110, 105, 115, 104, 101, 100]⟩ : ByteArray)⟩ : S50) [.int .i64 20, .string (⟨#[102, 105, 110, 105, 115, 104, 101, 100]⟩ : ByteArray)] from (k50_mkM _ _ _ (⟨20, (⟨#[102, 105, 110, 105, 115, 104, 101, 100]⟩ : ByteArray)⟩ : S50) )) (Reps.c2 (show Kd.M k50 _ _ _ (⟨24, (⟨#[107, 101, 121, 95, 117, 112, 100, 97, 116, 101]⟩ : ByteArray)⟩ : S50) [.int .i64 24, .string (⟨#[107, 101, 121, 95, 117, 112, 100, 97, 116, 101]⟩ : ByteArray)] from (k50_mkM _ _ _ (⟨24, (⟨#[107, 101, 121, 95, 117, 112, 100, 97, 116, 101]⟩ : ByteArray)⟩ : S50) )) (Reps.none _ _)))))))))))); intro v149 w6 ho7 hb hg_ hnew_; clear hg_ hnew_; (first | rw [← Ny148.out] at ho7 | (simp only [Int.reduceToNat] at ho7; rw [← Ny148.out] at ho7)); have n0_ := Aside0.mk (Kd.R_lower ho7 (below_size (by repeat (first | (with_reducible first | exact HB.out | apply below_alloc | apply pw_below_drewN | apply below_drew1) | exact HB.out)))); have n1_ := Aside0.mk (below_step (by repeat (first | (with_reducible first | exact HB.out | apply below_alloc | apply pw_below_drewN | apply below_drew1) | exact HB.out)) hb); clear HB; have HO150 := n0_; have HB := n1_; clear n0_ n1_; clear hb ho7))
      go_ret
      exact ⟨_, by first | rfl | (simp [errW_none, errW_some] <;> rfl) | (simp [*, errW_none, errW_some] <;> rfl), by (with_reducible repeat (first | apply Kd.R_alloc | apply Kd.R_drewN | apply Kd.R_drew)); exact HO150.out, by repeat (first | (with_reducible first | exact HB.out | apply below_alloc | apply pw_below_drewN | apply below_drew1) | exact HB.out)⟩
    · rw [if_neg c5] at H
      have c5b0 : (a0 == 1) = false := beq_eq_false_iff_ne.mpr c5
      have c5b1 : (a0 != 1) = true := bne_iff_ne.mpr c5
      by_cases c8 : a0 = 2
      · rw [if_pos c8] at H
        have c8b0 : (a0 == 2) = true := beq_iff_eq.mpr c8
        have c8b1 : (a0 != 2) = false := bne_eq_false_iff_eq.mpr c8
        clear c8
        obtain ⟨y151, hy151⟩ : ∃ y_ : List (S50), y_ = (([(⟨0, (⟨#[115, 101, 114, 118, 101, 114, 95, 110, 97, 109, 101]⟩ : ByteArray)⟩ : S50), (⟨1, (⟨#[109, 97, 120, 95, 102, 114, 97, 103, 109, 101, 110, 116, 95, 108, 101, 110, 103, 116, 104]⟩ : ByteArray)⟩ : S50), (⟨5, (⟨#[115, 116, 97, 116, 117, 115, 95, 114, 101, 113, 117, 101, 115, 116]⟩ : ByteArray)⟩ : S50), (⟨10, (⟨#[115, 117, 112, 112, 111, 114, 116, 101, 100, 95, 103, 114, 111, 117, 112, 115]⟩ : ByteArray)⟩ : S50), (⟨13, (⟨#[115, 105, 103, 110, 97, 116, 117, 114, 101, 95, 97, 108, 103, 111, 114, 105, 116, 104, 109, 115]⟩ : ByteArray)⟩ : S50), (⟨14, (⟨#[117, 115, 101, 95, 115, 114, 116, 112]⟩ : ByteArray)⟩ : S50), (⟨15, (⟨#[104, 101, 97, 114, 116, 98, 101, 97, 116]⟩ : ByteArray)⟩ : S50), (⟨16, (⟨#[97, 112, 112, 108, 105, 99, 97, 116, 105, 111, 110, 95, 108, 97, 121, 101, 114, 95, 112, 114, 111, 116, 111, 99, 111, 108, 95, 110, 101, 103, 111, 116, 105, 97, 116, 105, 111, 110]⟩ : ByteArray)⟩ : S50), (⟨18, (⟨#[115, 105, 103, 110, 101, 100, 95, 99, 101, 114, 116, 105, 102, 105, 99, 97, 116, 101, 95, 116, 105, 109, 101, 115, 116, 97, 109, 112]⟩ : ByteArray)⟩ : S50), (⟨19, (⟨#[99, 108, 105, 101, 110, 116, 95, 99, 101, 114, 116, 105, 102, 105, 99, 97, 116, 101, 95, 116, 121, 112, 101]⟩ : ByteArray)⟩ : S50), (⟨20, (⟨#[115, 101, 114, 118, 101, 114, 95, 99, 101, 114, 116, 105, 102, 105, 99, 97, 116, 101, 95, 116, 121, 112, 101]⟩ : ByteArray)⟩ : S50), (⟨21, (⟨#[112, 97, 100, 100, 105, 110, 103]⟩ : ByteArray)⟩ : S50), (⟨41, (⟨#[112, 114, 101, 95, 115, 104, 97, 114, 101, 100, 95, 107, 101, 121]⟩ : ByteArray)⟩ : S50), (⟨42, (⟨#[101, 97, 114, 108, 121, 95, 100, 97, 116, 97]⟩ : ByteArray)⟩ : S50), (⟨43, (⟨#[115, 117, 112, 112, 111, 114, 116, 101, 100, 95, 118, 101, 114, 115, 105, 111, 110, 115]⟩ : ByteArray)⟩ : S50), (⟨44, (⟨#[99, 111, 111, 107, 105, 101]⟩ : ByteArray)⟩ : S50), (⟨45, (⟨#[112, 115, 107, 95, 107, 101, 121, 95, 101, 120, 99, 104, 97, 110, 103, 101, 95, 109, 111, 100, 101, 115]⟩ : ByteArray)⟩ : S50), (⟨47, (⟨#[99, 101, 114, 116, 105, 102, 105, 99, 97, 116, 101, 95, 97, 117, 116, 104, 111, 114, 105, 116, 105, 101, 115]⟩ : ByteArray)⟩ : S50), (⟨48, (⟨#[111, 105, 100, 95, 102, 105, 108, 116, 101, 114, 115]⟩ : ByteArray)⟩ : S50), (⟨49, (⟨#[112, 111, 115, 116, 95, 104, 97, 110, 100, 115, 104, 97, 107, 101, 95, 97, 117, 116, 104]⟩ : ByteArray)⟩ : S50), (⟨50, (⟨#[115, 105, 103, 110, 97, 116, 117, 114, 101, 95, 97, 108, 103, 111, 114, 105, 116, 104, 109, 115, 95, 99, 101, 114, 116]⟩ : ByteArray)⟩ : S50), (⟨51, (⟨#[107, 101, 121, 95, 115, 104, 97, 114, 101]⟩ : ByteArray)⟩ : S50)] : List (S50))) := ⟨_, rfl⟩
        replace H : (some y151) = some r := by first | (rw [hy151]; with_reducible exact H) | (have H2_ := (Option.bind_some _ _).symm.trans H; rw [hy151]; with_reducible exact H2_) | (have H2_ := (Option.bind_some _ _).symm.trans H; with_reducible exact H2_) | with_reducible exact H | (rw [hy151]; exact H) | exact H
        have Ny151 := Aside0.mk hy151
        clear hy151
        obtain rfl := Option.some.inj H
        go_enter Try.func20, Try.ntmps20
        go_wp2_with (first | ((with_reducible refine gate_dst (N := 48) rfl ?_); refine Kd.R_lit k50 _ 50 ?hg (N := 48) ?hd (xs := ([(⟨0, (⟨#[115, 101, 114, 118, 101, 114, 95, 110, 97, 109, 101]⟩ : ByteArray)⟩ : S50), (⟨1, (⟨#[109, 97, 120, 95, 102, 114, 97, 103, 109, 101, 110, 116, 95, 108, 101, 110, 103, 116, 104]⟩ : ByteArray)⟩ : S50), (⟨5, (⟨#[115, 116, 97, 116, 117, 115, 95, 114, 101, 113, 117, 101, 115, 116]⟩ : ByteArray)⟩ : S50), (⟨10, (⟨#[115, 117, 112, 112, 111, 114, 116, 101, 100, 95, 103, 114, 111, 117, 112, 115]⟩ : ByteArray)⟩ : S50), (⟨13, (⟨#[115, 105, 103, 110, 97, 116, 117, 114, 101, 95, 97, 108, 103, 111, 114, 105, 116, 104, 109, 115]⟩ : ByteArray)⟩ : S50), (⟨14, (⟨#[117, 115, 101, 95, 115, 114, 116, 112]⟩ : ByteArray)⟩ : S50), (⟨15, (⟨#[104, 101, 97, 114, 116, 98, 101, 97, 116]⟩ : ByteArray)⟩ : S50), (⟨16, (⟨#[97, 112, 112, 108, 105, 99, 97, 116, 105, 111, 110, 95, 108, 97, 121, 101, 114, 95, 112, 114, 111, 116, 111, 99, 111, 108, 95, 110, 101, 103, 111, 116, 105, 97, 116, 105, 111, 110]⟩ : ByteArray)⟩ : S50), (⟨18, (⟨#[115, 105, 103, 110, 101, 100, 95, 99, 101, 114, 116, 105, 102, 105, 99, 97, 116, 101, 95, 116, 105, 109, 101, 115, 116, 97, 109, 112]⟩ : ByteArray)⟩ : S50), (⟨19, (⟨#[99, 108, 105, 101, 110, 116, 95, 99, 101, 114, 116, 105, 102, 105, 99, 97, 116, 101, 95, 116, 121, 112, 101]⟩ : ByteArray)⟩ : S50), (⟨20, (⟨#[115, 101, 114, 118, 101, 114, 95, 99, 101, 114, 116, 105, 102, 105, 99, 97, 116, 101, 95, 116, 121, 112, 101]⟩ : ByteArray)⟩ : S50), (⟨21, (⟨#[112, 97, 100, 100, 105, 110, 103]⟩ : ByteArray)⟩ : S50), (⟨41, (⟨#[112, 114, 101, 95, 115, 104, 97, 114, 101, 100, 95, 107, 101, 121]⟩ : ByteArray)⟩ : S50), (⟨42, (⟨#[101, 97, 114, 108, 121, 95, 100, 97, 116, 97]⟩ : ByteArray)⟩ : S50), (⟨43, (⟨#[115, 117, 112, 112, 111, 114, 116, 101, 100, 95, 118, 101, 114, 115, 105, 111, 110, 115]⟩ : ByteArray)⟩ : S50), (⟨44, (⟨#[99, 111, 111, 107, 105, 101]⟩ : ByteArray)⟩ : S50), (⟨45, (⟨#[112, 115, 107, 95, 107, 101, 121, 95, 101, 120, 99, 104, 97, 110, 103, 101, 95, 109, 111, 100, 101, 115]⟩ : ByteArray)⟩ : S50), (⟨47, (⟨#[99, 101, 114, 116, 105, 102, 105, 99, 97, 116, 101, 95, 97, 117, 116, 104, 111, 114, 105, 116, 105, 101, 115]⟩ : ByteArray)⟩ : S50), (⟨48, (⟨#[111, 105, 100, 95, 102, 105, 108, 116, 101, 114, 115]⟩ : ByteArray)⟩ : S50), (⟨49, (⟨#[112, 111, 115, 116, 95, 104, 97, 110, 100, 115, 104, 97, 107, 101, 95, 97, 117, 116, 104]⟩ : ByteArray)⟩ : S50), (⟨50, (⟨#[115, 105, 103, 110, 97, 116, 117, 114, 101, 95, 97, 108, 103, 111, 114, 105, 116, 104, 109, 115, 95, 99, 101, 114, 116]⟩ : ByteArray)⟩ : S50), (⟨51, (⟨#[107, 101, 121, 95, 115, 104, 97, 114, 101]⟩ : ByteArray)⟩ : S50)] : List (S50))) (inner := [.int .i64 0, .string (⟨#[115, 101, 114, 118, 101, 114, 95, 110, 97, 109, 101]⟩ : ByteArray), .int .i64 1, .string (⟨#[109, 97, 120, 95, 102, 114, 97, 103, 109, 101, 110, 116, 95, 108, 101, 110, 103, 116, 104]⟩ : ByteArray), .int .i64 5, .string (⟨#[115, 116, 97, 116, 117, 115, 95, 114, 101, 113, 117, 101, 115, 116]⟩ : ByteArray), .int .i64 10, .string (⟨#[115, 117, 112, 112, 111, 114, 116, 101, 100, 95, 103, 114, 111, 117, 112, 115]⟩ : ByteArray), .int .i64 13, .string (⟨#[115, 105, 103, 110, 97, 116, 117, 114, 101, 95, 97, 108, 103, 111, 114, 105, 116, 104, 109, 115]⟩ : ByteArray), .int .i64 14, .string (⟨#[117, 115, 101, 95, 115, 114, 116, 112]⟩ : ByteArray), .int .i64 15, .string (⟨#[104, 101, 97, 114, 116, 98, 101, 97, 116]⟩ : ByteArray), .int .i64 16, .string (⟨#[97, 112, 112, 108, 105, 99, 97, 116, 105, 111, 110, 95, 108, 97, 121, 101, 114, 95, 112, 114, 111, 116, 111, 99, 111, 108, 95, 110, 101, 103, 111, 116, 105, 97, 116, 105, 111, 110]⟩ : ByteArray), .int .i64 18, .string (⟨#[115, 105, 103, 110, 101, 100, 95, 99, 101, 114, 116, 105, 102, 105, 99, 97, 116, 101, 95, 116, 105, 109, 101, 115, 116, 97, 109, 112]⟩ : ByteArray), .int .i64 19, .string (⟨#[99, 108, 105, 101, 110, 116, 95, 99, 101, 114, 116, 105, 102, 105, 99, 97, 116, 101, 95, 116, 121, 112, 101]⟩ : ByteArray), .int .i64 20, .string (⟨#[115, 101, 114, 118, 101, 114, 95, 99, 101, 114, 116, 105, 102, 105, 99, 97, 116, 101, 95, 116, 121, 112, 101]⟩ : ByteArray), .int .i64 21, .string (⟨#[112, 97, 100, 100, 105, 110, 103]⟩ : ByteArray), .int .i64 41, .string (⟨#[112, 114, 101, 95, 115, 104, 97, 114, 101, 100, 95, 107, 101, 121]⟩ : ByteArray), .int .i64 42, .string (⟨#[101, 97, 114, 108, 121, 95, 100, 97, 116, 97]⟩ : ByteArray), .int .i64 43, .string (⟨#[115, 117, 112, 112, 111, 114, 116, 101, 100, 95, 118, 101, 114, 115, 105, 111, 110, 115]⟩ : ByteArray), .int .i64 44, .string (⟨#[99, 111, 111, 107, 105, 101]⟩ : ByteArray), .int .i64 45, .string (⟨#[112, 115, 107, 95, 107, 101, 121, 95, 101, 120, 99, 104, 97, 110, 103, 101, 95, 109, 111, 100, 101, 115]⟩ : ByteArray), .int .i64 47, .string (⟨#[99, 101, 114, 116, 105, 102, 105, 99, 97, 116, 101, 95, 97, 117, 116, 104, 111, 114, 105, 116, 105, 101, 115]⟩ : ByteArray), .int .i64 48, .string (⟨#[111, 105, 100, 95, 102, 105, 108, 116, 101, 114, 115]⟩ : ByteArray), .int .i64 49, .string (⟨#[112, 111, 115, 116, 95, 104, 97, 110, 100, 115, 104, 97, 107, 101, 95, 97, 117, 116, 104]⟩ : ByteArray), .int .i64 50, .string (⟨#[115, 105, 103, 110, 97, 116, 117, 114, 101, 95, 97, 108, 103, 111, 114, 105, 116, 104, 109, 115, 95, 99, 101, 114, 116]⟩ : ByteArray), .int .i64 51, .string (⟨#[107, 101, 121, 95, 115, 104, 97, 114, 101]⟩ : ByteArray)]) (ok := fun _ => True) (okp := fun _ => True) ?hr ?hp (fun _ hk => hk) trivial (Below.refl _ _) (Nat.le_refl _) (by simp) ?_; (case hd => rfl); (case hg => rfl); (case hr => first | (go_simp; done) | (go_simp; rfl)); (case hp => exact (Reps.c2 (show Kd.M k50 _ _ _ (⟨0, (⟨#[115, 101, 114, 118, 101, 114, 95, 110, 97, 109, 101]⟩ : ByteArray)⟩ : S50) [.int .i64 0, .string (⟨#[115, 101, 114, 118, 101, 114, 95, 110, 97, 109, 101]⟩ : ByteArray)] from (k50_mkM _ _ _ (⟨0, (⟨#[115, 101, 114, 118, 101, 114, 95, 110, 97, 109, 101]⟩ : ByteArray)⟩ : S50) )) (Reps.c2 (show Kd.M k50 _ _ _ (⟨1, (⟨#[109, 97, 120, 95, 102, 114, 97, 103, 109, 101, 110, 116, 95, 108, 101, 110, 103, 116, 104]⟩ : ByteArray)⟩ : S50) [.int .i64 1, .string (⟨#[109, 97, 120, 95, 102, 114, 97, 103, 109, 101, 110, 116, 95, 108, 101, 110, 103, 116, 104]⟩ : ByteArray)] from (k50_mkM _ _ _ (⟨1, (⟨#[109, 97, 120, 95, 102, 114, 97, 103, 109, 101, 110, 116, 95, 108, 101, 110, 103, 116, 104]⟩ : ByteArray)⟩ : S50) )) (Reps.c2 (show Kd.M k50 _ _ _ (⟨5, (⟨#[115, 116, 97, 116, 117, 115, 95, 114, 101, 113, 117, 101, 115, 116]⟩ : ByteArray)⟩ : S50) [.int .i64 5, .string (⟨#[115, 116, 97, 116, 117, 115, 95, 114, 101, 113, 117, 101, 115, 116]⟩ : ByteArray)] from (k50_mkM _ _ _ (⟨5, (⟨#[115, 116, 97, 116, 117, 115, 95, 114, 101, 113, 117, 101, 115, 116]⟩ : ByteArray)⟩ : S50) )) (Reps.c2 (show Kd.M k50 _ _ _ (⟨10, (⟨#[115, 117, 112, 112, 111, 114, 116, 101, 100, 95, 103, 114, 111, 117, 112, 115]⟩ : ByteArray)⟩ : S50) [.int .i64 10, .string (⟨#[115, 117, 112, 112, 111, 114, 116, 101, 100, 95, 103, 114, 111, 117, 112, 115]⟩ : ByteArray)] from (k50_mkM _ _ _ (⟨10, (⟨#[115, 117, 112, 112, 111, 114, 116, 101, 100, 95, 103, 114, 111, 117, 112, 115]⟩ : ByteArray)⟩ : S50) )) (Reps.c2 (show Kd.M k50 _ _ _ (⟨13, (⟨#[115, 105, 103, 110, 97, 116, 117, 114, 101, 95, 97, 108, 103, 111, 114, 105, 116, 104, 109, 115]⟩ : ByteArray)⟩ : S50) [.int .i64 13, .string (⟨#[115, 105, 103, 110, 97, 116, 117, 114, 101, 95, 97, 108, 103, 111, 114, 105, 116, 104, 109, 115]⟩ : ByteArray)] from (k50_mkM _ _ _ (⟨13, (⟨#[115, 105, 103, 110, 97, 116, 117, 114, 101, 95, 97, 108, 103, 111, 114, 105, 116, 104, 109, 115]⟩ : ByteArray)⟩ : S50) )) (Reps.c2 (show Kd.M k50 _ _ _ (⟨14, (⟨#[117, 115, 101, 95, 115, 114, 116, 112]⟩ : ByteArray)⟩ : S50) [.int .i64 14, .string (⟨#[117, 115, 101, 95, 115, 114, 116, 112]⟩ : ByteArray)] from (k50_mkM _ _ _ (⟨14, (⟨#[117, 115, 101, 95, 115, 114, 116, 112]⟩ : ByteArray)⟩ : S50) )) (Reps.c2 (show Kd.M k50 _ _ _ (⟨15, (⟨#[104, 101, 97, 114, 116, 98, 101, 97, 116]⟩ : ByteArray)⟩ : S50) [.int .i64 15, .string (⟨#[104, 101, 97, 114, 116, 98, 101, 97, 116]⟩ : ByteArray)] from (k50_mkM _ _ _ (⟨15, (⟨#[104, 101, 97, 114, 116, 98, 101, 97, 116]⟩ : ByteArray)⟩ : S50) )) (Reps.c2 (show Kd.M k50 _ _ _ (⟨16, (⟨#[97, 112, 112, 108, 105, 99, 97, 116, 105, 111, 110, 95, 108, 97, 121, 101, 114, 95, 112, 114, 111, 116, 111, 99, 111, 108, 95, 110, 101, 103, 111, 116, 105, 97, 116, 105, 111, 110]⟩ : ByteArray)⟩ : S50) [.int .i64 16, .string (⟨#[97, 112, 112, 108, 105, 99, 97, 116, 105, 111, 110, 95, 108, 97, 121, 101, 114, 95, 112, 114, 111, 116, 111, 99, 111, 108, 95, 110, 101, 103, 111, 116, 105, 97, 116, 105, 111, 110]⟩ : ByteArray)] from (k50_mkM _ _ _ (⟨16, (⟨#[97, 112, 112, 108, 105, 99, 97, 116, 105, 111, 110, 95, 108, 97, 121, 101, 114, 95, 112, 114, 111, 116, 111, 99, 111, 108, 95, 110, 101, 103, 111, 116, 105, 97, 116, 105, 111, 110]⟩ : ByteArray)⟩ : S50) )) (Reps.c2 (show Kd.M k50 _ _ _ (⟨18, (⟨#[115, 105, 103, 110, 101, 100, 95, 99, 101, 114, 116, 105, 102, 105, 99, 97, 116, 101, 95, 116, 105, 109, 101, 115, 116, 97, 109, 112]⟩ : ByteArray)⟩ : S50) [.int .i64 18, .string (⟨#[115, 105, 103, 110, 101, 100, 95, 99, 101, 114, 116, 105, 102, 105, 99, 97, 116, 101, 95, 116, 105, 109, 101, 115, 116, 97, 109, 112]⟩ : ByteArray)] from (k50_mkM _ _ _ (⟨18, (⟨#[115, 105, 103, 110, 101, 100, 95, 99, 101, 114, 116, 105, 102, 105, 99, 97, 116, 101, 95, 116, 105, 109, 101, 115, 116, 97, 109, 112]⟩ : ByteArray)⟩ : S50) )) (Reps.c2 (show Kd.M k50 _ _ _ (⟨19, (⟨#[99, 108, 105, 101, 110, 116, 95, 99, 101, 114, 116, 105, 102, 105, 99, 97, 116, 101, 95, 116, 121, 112, 101]⟩ : ByteArray)⟩ : S50) [.int .i64 19, .string (⟨#[99, 108, 105, 101, 110, 116, 95, 99, 101, 114, 116, 105, 102, 105, 99, 97, 116, 101, 95, 116, 121, 112, 101]⟩ : ByteArray)] from (k50_mkM _ _ _ (⟨19, (⟨#[99, 108, 105, 101, 110, 116, 95, 99, 101, 114, 116, 105, 102, 105, 99, 97, 116, 101, 95, 116, 121, 112, 101]⟩ : ByteArray)⟩ : S50) )) (Reps.c2 (show Kd.M k50 _ _ _ (⟨20, (⟨#[115, 101, 114, 118, 101, 114, 95, 99, 101, 114, 116, 105, 102, 105, 99, 97, 116, 101, 95, 116, 121, 112, 101]⟩ : ByteArray)⟩ : S50) [.int .i64 20, .string (⟨#[115, 101, 114, 118, 101, 114, 95, 99, 101, 114, 116, 105, 102, 105, 99, 97, 116, 101, 95, 116, 121, 112, 101]⟩ : ByteArray)] from (k50_mkM _ _ _ (⟨20, (⟨#[115, 101, 114, 118, 101, 114, 95, 99, 101, 114, 116, 105, 102, 105, 99, 97, 116, 101, 95, 116, 121, 112, 101]⟩ : ByteArray)⟩ : S50) )) (Reps.c2 (show Kd.M k50 _ _ _ (⟨21, (⟨#[112, 97, 100, 100, 105, 110, 103]⟩ : ByteArray)⟩ : S50) [.int .i64 21, .string (⟨#[112, 97, 100, 100, 105, 110, 103]⟩ : ByteArray)] from (k50_mkM _ _ _ (⟨21, (⟨#[112, 97, 100, 100, 105, 110, 103]⟩ : ByteArray)⟩ : S50) )) (Reps.c2 (show Kd.M k50 _ _ _ (⟨41, (⟨#[112, 114, 101, 95, 115, 104, 97, 114, 101, 100, 95, 107, 101, 121]⟩ : ByteArray)⟩ : S50) [.int .i64 41, .string (⟨#[112, 114, 101, 95, 115, 104, 97, 114, 101, 100, 95, 107, 101, 121]⟩ : ByteArray)] from (k50_mkM _ _ _ (⟨41, (⟨#[112, 114, 101, 95, 115, 104, 97, 114, 101, 100, 95, 107, 101, 121]⟩ : ByteArray)⟩ : S50) )) (Reps.c2 (show Kd.M k50 _ _ _ (⟨42, (⟨#[101, 97, 114, 108, 121, 95, 100, 97, 116, 97]⟩ : ByteArray)⟩ : S50) [.int .i64 42, .string (⟨#[101, 97, 114, 108, 121, 95, 100, 97, 116, 97]⟩ : ByteArray)] from (k50_mkM _ _ _ (⟨42, (⟨#[101, 97, 114, 108, 121, 95, 100, 97, 116, 97]⟩ : ByteArray)⟩ : S50) )) (Reps.c2 (show Kd.M k50 _ _ _ (⟨43, (⟨#[115, 117, 112, 112, 111, 114, 116, 101, 100, 95, 118, 101, 114, 115, 105, 111, 110, 115]⟩ : ByteArray)⟩ : S50) [.int .i64 43, .string (⟨#[115, 117, 112, 112, 111, 114, 116, 101, 100, 95, 118, 101, 114, 115, 105, 111, 110, 115]⟩ : ByteArray)] from (k50_mkM _ _ _ (⟨43, (⟨#[115, 117, 112, 112, 111, 114, 116, 101, 100, 95, 118, 101, 114, 115, 105, 111, 110, 115]⟩ : ByteArray)⟩ : S50) )) (Reps.c2 (show Kd.M k50 _ _ _ (⟨44, (⟨#[99, 111, 111, 107, 105, 101]⟩ : ByteArray)⟩ : S50) [.int .i64 44, .string (⟨#[99, 111, 111, 107, 105, 101]⟩ : ByteArray)] from (k50_mkM _ _ _ (⟨44, (⟨#[99, 111, 111, 107, 105, 101]⟩ : ByteArray)⟩ : S50) )) (Reps.c2 (show Kd.M k50 _ _ _ (⟨45, (⟨#[112, 115, 107, 95, 107, 101, 121, 95, 101, 120, 99, 104, 97, 110, 103, 101, 95, 109, 111, 100, 101, 115]⟩ : ByteArray)⟩ : S50) [.int .i64 45, .string (⟨#[112, 115, 107, 95, 107, 101, 121, 95, 101, 120, 99, 104, 97, 110, 103, 101, 95, 109, 111, 100, 101, 115]⟩ : ByteArray)] from (k50_mkM _ _ _ (⟨45, (⟨#[112, 115, 107, 95, 107, 101, 121, 95, 101, 120, 99, 104, 97, 110, 103, 101, 95, 109, 111, 100, 101, 115]⟩ : ByteArray)⟩ : S50) )) (Reps.c2 (show Kd.M k50 _ _ _ (⟨47, (⟨#[99, 101, 114, 116, 105, 102, 105, 99, 97, 116, 101, 95, 97, 117, 116, 104, 111, 114, 105, 116, 105, 101, 115]⟩ : ByteArray)⟩ : S50) [.int .i64 47, .string (⟨#[99, 101, 114, 116, 105, 102, 105, 99, 97, 116, 101, 95, 97, 117, 116, 104, 111, 114, 105, 116, 105, 101, 115]⟩ : ByteArray)] from (k50_mkM _ _ _ (⟨47, (⟨#[99, 101, 114, 116, 105, 102, 105, 99, 97, 116, 101, 95, 97, 117, 116, 104, 111, 114, 105, 116, 105, 101, 115]⟩ : ByteArray)⟩ : S50) )) (Reps.c2 (show Kd.M k50 _ _ _ (⟨48, (⟨#[111, 105, 100, 95, 102, 105, 108, 116, 101, 114, 115]⟩ : ByteArray)⟩ : S50) [.int .i64 48, .string (⟨#[111, 105, 100, 95, 102, 105, 108, 116, 101, 114, 115]⟩ : ByteArray)] from (k50_mkM _ _ _ (⟨48, (⟨#[111, 105, 100, 95, 102, 105, 108, 116, 101, 114, 115]⟩ : ByteArray)⟩ : S50) )) (Reps.c2 (show Kd.M k50 _ _ _ (⟨49, (⟨#[112, 111, 115, 116, 95, 104, 97, 110, 100, 115, 104, 97, 107, 101, 95, 97, 117, 116, 104]⟩ : ByteArray)⟩ : S50) [.int .i64 49, .string (⟨#[112, 111, 115, 116, 95, 104, 97, 110, 100, 115, 104, 97, 107, 101, 95, 97, 117, 116, 104]⟩ : ByteArray)] from (k50_mkM _ _ _ (⟨49, (⟨#[112, 111, 115, 116, 95, 104, 97, 110, 100, 115, 104, 97, 107, 101, 95, 97, 117, 116, 104]⟩ : ByteArray)⟩ : S50) )) (Reps.c2 (show Kd.M k50 _ _ _ (⟨50, (⟨#[115, 105, 103, 110, 97, 116, 117, 114, 101, 95, 97, 108, 103, 111, 114, 105, 116, 104, 109, 115, 95, 99, 101, 114, 116]⟩ : ByteArray)⟩ : S50) [.int .i64 50, .string (⟨#[115, 105, 103, 110, 97, 116, 117, 114, 101, 95, 97, 108, 103, 111, 114, 105, 116, 104, 109, 115, 95, 99, 101, 114, 116]⟩ : ByteArray)] from (k50_mkM _ _ _ (⟨50, (⟨#[115, 105, 103, 110, 97, 116, 117, 114, 101, 95, 97, 108, 103, 111, 114, 105, 116, 104, 109, 115, 95, 99, 101, 114, 116]⟩ : ByteArray)⟩ : S50) )) (Reps.c2 (show Kd.M k50 _ _ _ (⟨51, (⟨#[107, 101, 121, 95, 115, 104, 97, 114, 101]⟩ : ByteArray)⟩ : S50) [.int .i64 51, .string (⟨#[107, 101, 121, 95, 115, 104, 97, 114, 101]⟩ : ByteArray)] from (k50_mkM _ _ _ (⟨51, (⟨#[107, 101, 121, 95, 115, 104, 97, 114, 101]⟩ : ByteArray)⟩ : S50) )) (Reps.none _ _)))))))))))))))))))))))); intro v152 w9 ho10 hb hg_ hnew_; clear hg_ hnew_; (first | rw [← Ny151.out] at ho10 | (simp only [Int.reduceToNat] at ho10; rw [← Ny151.out] at ho10)); have n0_ := Aside0.mk (Kd.R_lower ho10 (below_size (by repeat (first | (with_reducible first | exact HB.out | apply below_alloc | apply pw_below_drewN | apply below_drew1) | exact HB.out)))); have n1_ := Aside0.mk (below_step (by repeat (first | (with_reducible first | exact HB.out | apply below_alloc | apply pw_below_drewN | apply below_drew1) | exact HB.out)) hb); clear HB; have HO153 := n0_; have HB := n1_; clear n0_ n1_; clear hb ho10))
        go_ret
        exact ⟨_, by first | rfl | (simp [errW_none, errW_some] <;> rfl) | (simp [*, errW_none, errW_some] <;> rfl), by (with_reducible repeat (first | apply Kd.R_alloc | apply Kd.R_drewN | apply Kd.R_drew)); exact HO153.out, by repeat (first | (with_reducible first | exact HB.out | apply below_alloc | apply pw_below_drewN | apply below_drew1) | exact HB.out)⟩
      · rw [if_neg c8] at H
        have c8b0 : (a0 == 2) = false := beq_eq_false_iff_ne.mpr c8
        have c8b1 : (a0 != 2) = true := bne_iff_ne.mpr c8
        obtain rfl := Option.some.inj H
        go_enter Try.func20, Try.ntmps20
        go_wp2
        go_ret
        exact ⟨_, by first | rfl | (simp [errW_none, errW_some] <;> rfl) | (simp [*, errW_none, errW_some] <;> rfl), by first | exact Kd.R_nil _ _ _ _ _ | exact Kd.N_nil _ _ _ _ _ | exact Kd.V_nil _ _ _ _ _ | exact Kd.Q_nil _ _ _ _ _ | exact Kd.S_nil _ _ _ _ _, by repeat (first | (with_reducible first | exact HB.out | apply below_alloc | apply pw_below_drewN | apply below_drew1) | exact HB.out)⟩

def passepartoutref08_Name.l0 : Nat → Int → List (S50) → Int → Option (ByteArray × Bool)
  | 0, _, _, _ => none
  | k + 1, x1, x6, x7 => if x7 < (x6.length : Int) then (if 0 ≤ x7 then (if ((rd_T50 x6 x7).f0) = x1 then (some ((rd_T50 x6 x7).f1, true)) else (passepartoutref08_Name.l0 k x1 x6 (wrap64 (x7 + 1)))) else (none)) else (some ((⟨#[]⟩ : ByteArray), false))
def passepartoutref08_Name.f (k : Nat) (a0 : Int) (a1 : Int) : Option (ByteArray × Bool) := (passepartoutref08_All.f a0).bind fun t154 => (passepartoutref08_Name.l0 k a1 t154 0)
theorem passepartoutref08_Name.mono_l : ∀ k, (∀ y0 y1 y2, LeO (passepartoutref08_Name.l0 k y0 y1 y2) (passepartoutref08_Name.l0 (k + 1) y0 y1 y2))
  | 0 => fun _ _ _ r h => by simp [passepartoutref08_Name.l0] at h
  | k + 1 => by
    have ih0 := passepartoutref08_Name.mono_l k
    · intro y0 y1 y2
      unfold passepartoutref08_Name.l0
      repeat' first
      | (with_reducible exact ih0 _ _ _)
      | (with_reducible exact LeO.refl _)
      | (with_reducible exact LeO.none _)
      | (with_reducible refine LeO.ite ?_ ?_)
      | (with_reducible refine LeO.bind ?_ (fun _ => ?_))
      | exact ih0 _ _ _
      | exact LeO.none _
      | refine LeO.ite ?_ ?_
      | refine LeO.bind ?_ (fun _ => ?_)
theorem passepartoutref08_Name.mono : ∀ a0 a1 k, LeO (passepartoutref08_Name.f k a0 a1) (passepartoutref08_Name.f (k + 1) a0 a1) := by
  intro a0 a1 k
  have ih0 := passepartoutref08_Name.mono_l k
  unfold passepartoutref08_Name.f
  repeat' first
      | (with_reducible exact ih0 _ _ _)
      | (with_reducible exact LeO.refl _)
      | (with_reducible exact LeO.none _)
      | (with_reducible refine LeO.ite ?_ ?_)
      | (with_reducible refine LeO.bind ?_ (fun _ => ?_))
      | exact ih0 _ _ _
      | exact LeO.none _
      | refine LeO.ite ?_ ?_
      | refine LeO.bind ?_ (fun _ => ?_)
set_option maxHeartbeats 8000000 in
set_option maxRecDepth 100000 in
theorem passepartoutref08_Name.calls (k : Nat) (a0 : Int) (a1 : Int) (r1 : ByteArray) (r2 : Bool) (w : World) (h : passepartoutref08_Name.f k a0 a1 = some (r1, r2)) :
    Calls Try.prog 12 #[.int .i64 a0, .int .i64 a1] w fun e w' => e = .returned (.tuple #[.string r1, .bool r2]) ∧ Below w.heap.size w w' := by
  have HB := Aside0.mk (Below.refl w.heap.size w)
  have H : ((passepartoutref08_All.f a0).bind fun t154 => (passepartoutref08_Name.l0 k a1 t154 0)) = some (r1, r2) := h
  clear h
  replace H := Option.bind_eq_some_iff.mp H
  obtain ⟨t154, A30, H⟩ := H
  replace H : (passepartoutref08_Name.l0 k a1 t154 0) = some (r1, r2) := H
  have A3 := Aside0.mk A30
  clear A30
  have H' := Aside0.mk H
  clear H
  go_enter Try.func12, Try.ntmps12
  go_wp2_with (first | ((with_reducible refine gate_callee (f := 20) rfl ?_); refine goesL_ (some 9) rfl rfl Try.func20 (by kernel_rfl) rfl #[.int .i64 a0] rfl (by (try simp only [List.map_toArray, List.map_cons, List.map_nil]); first | done | rfl | (simp only [List.length_drop, List.length_take]; rfl)) ?_; (with_reducible refine (passepartoutref08_All.calls a0 t154 _ A3.out).mono ?_); rintro e w4 ⟨v155, rfl, ho0, hb⟩; refine ⟨_, rfl, ?_⟩; have n0_ := Aside0.mk (Kd.R_lower ho0 (below_size (by repeat (first | (with_reducible first | exact HB.out | apply below_alloc | apply pw_below_drewN | apply below_drew1) | exact HB.out)))); have n1_ := Aside0.mk (below_step (by repeat (first | (with_reducible first | exact HB.out | apply below_alloc | apply pw_below_drewN | apply below_drew1) | exact HB.out)) hb); clear HB; have HO156 := n0_; have HB := n1_; clear n0_ n1_; (try clear hb); (try clear hb2); (try clear hk); (try clear hi); (try clear ho0)))
  go_loopg [7] k (fun kq v7 w' => ∃ (x7_1 : Int), v7 = .int .i64 x7_1 ∧ Aside0 (passepartoutref08_Name.l0 kq a1 t154 x7_1 = some (r1, r2)) ∧ Aside0 (kq ≤ k) ∧ Aside0 (Kd.R k50 50 w' w.heap.size (fun _ => True) v155 t154) ∧ Aside0 (Below w.heap.size w w'))
  case atStart => exact ⟨(0), (by first | rfl | (simp; done) | (simp [*]; done)), H', ⟨Nat.le_refl _⟩, ⟨by (with_reducible repeat (first | apply Kd.R_alloc | apply Kd.R_drewN | apply Kd.R_drew)); exact HO156.out⟩, ⟨by repeat (first | (with_reducible first | exact HB.out | apply below_alloc | apply pw_below_drewN | apply below_drew1) | exact HB.out)⟩⟩
  case round =>
    clear H'
    try clear c1
    try clear c2
    try clear p2
    obtain ⟨x7_1, rfl, HA, HK1, HO_6, HB⟩ := hrel
    cases gk with
    | zero => exact absurd HA.out (by simp [passepartoutref08_Name.l0])
    | succ k1 =>
      have H := HA.out
      clear HA
      simp only [passepartoutref08_Name.l0] at H
      by_cases c5 : x7_1 < (t154.length : Int)
      · rw [if_pos c5] at H
        have c5b0 : decide (x7_1 < (t154.length : Int)) = true := decide_eq_true c5
        clear c5
        by_cases c6 : 0 ≤ x7_1
        · rw [if_pos c6] at H
          have c6b0 : decide (0 ≤ x7_1) = true := decide_eq_true c6
          clear c6
          by_cases c7 : ((rd_T50 t154 x7_1).f0) = a1
          · rw [if_pos c7] at H
            have c7b0 : (((rd_T50 t154 x7_1).f0) == a1) = true := beq_iff_eq.mpr c7
            have c7b1 : (((rd_T50 t154 x7_1).f0) != a1) = false := bne_eq_false_iff_eq.mpr c7
            clear c7
            simp only [Option.some.injEq, Prod.mk.injEq] at H
            obtain ⟨rfl, rfl⟩ := H
            obtain ⟨Ao8, co8, eo8⟩ := Kd.R_slice HO_6.out
            subst eo8
            have p157 : 0 ≤ (x7_1 : Int) := of_decide_eq_true (by first | (with_reducible assumption) | assumption)
            have q157 : x7_1 < (t154.length : Int) := of_decide_eq_true (by first | (with_reducible assumption) | assumption)
            obtain ⟨ad157, e157, hx157_0, hx157_1⟩ := at_T50 (Kd.R_reads' HO_6.out).2.2 x7_1 p157 q157
            cases e157
            replace p157 := eq_true p157
            replace q157 := eq_true q157
            have p158 : 0 ≤ (x7_1 : Int) := of_decide_eq_true (by first | (with_reducible assumption) | assumption)
            have q158 : x7_1 < (t154.length : Int) := of_decide_eq_true (by first | (with_reducible assumption) | assumption)
            obtain ⟨ad158, e158, hx158_0, hx158_1⟩ := at_T50 (Kd.R_reads' HO_6.out).2.2 x7_1 p158 q158
            obtain rfl : ad157 = ad158 := (by injection e158)
            replace p158 := eq_true p158
            replace q158 := eq_true q158
            go_wp2
            go_ret2
            exact ⟨by first | rfl | (simp [errW_none, errW_some] <;> rfl) | (simp [*, errW_none, errW_some] <;> rfl), by repeat (first | (with_reducible first | exact HB.out | apply below_alloc | apply pw_below_drewN | apply below_drew1) | exact HB.out)⟩
          · rw [if_neg c7] at H
            have c7b0 : (((rd_T50 t154 x7_1).f0) == a1) = false := beq_eq_false_iff_ne.mpr c7
            have c7b1 : (((rd_T50 t154 x7_1).f0) != a1) = true := bne_iff_ne.mpr c7
            have H' := Aside0.mk H
            clear H
            obtain ⟨Ao9, co9, eo9⟩ := Kd.R_slice HO_6.out
            subst eo9
            have p157 : 0 ≤ (x7_1 : Int) := of_decide_eq_true (by first | (with_reducible assumption) | assumption)
            have q157 : x7_1 < (t154.length : Int) := of_decide_eq_true (by first | (with_reducible assumption) | assumption)
            obtain ⟨ad157, e157, hx157_0, hx157_1⟩ := at_T50 (Kd.R_reads' HO_6.out).2.2 x7_1 p157 q157
            cases e157
            replace p157 := eq_true p157
            replace q157 := eq_true q157
            go_wp2
            go_roundg k1
            case measure => have := HK1.out; omega
            case rel => exact ⟨(wrap64 (x7_1 + 1)), (by first | rfl | (simp; done) | (simp [*]; done)), H', ⟨by have := HK1.out; omega⟩, ⟨by (with_reducible repeat (first | apply Kd.R_alloc | apply Kd.R_drewN | apply Kd.R_drew)); exact HO_6.out⟩, ⟨by repeat (first | (with_reducible first | exact HB.out | apply below_alloc | apply pw_below_drewN | apply below_drew1) | exact HB.out)⟩⟩
        · rw [if_neg c6] at H
          exact absurd H (by simp)
      · rw [if_neg c5] at H
        have c5b0 : decide (x7_1 < (t154.length : Int)) = false := decide_eq_false c5
        clear c5
        simp only [Option.some.injEq, Prod.mk.injEq] at H
        obtain ⟨rfl, rfl⟩ := H
        obtain ⟨Ao10, co10, eo10⟩ := Kd.R_slice HO_6.out
        subst eo10
        go_wp2
        go_ret2
        exact ⟨by first | rfl | (simp [errW_none, errW_some] <;> rfl) | (simp [*, errW_none, errW_some] <;> rfl), by repeat (first | (with_reducible first | exact HB.out | apply below_alloc | apply pw_below_drewN | apply below_drew1) | exact HB.out)⟩


def r14_May.f (k : Nat) (a0 : Int) (a1 : Int) : Option (Bool) := (passepartoutref08_Name.f k 2 a1).bind fun bt159 => ((r13_Ext.f a0 a1).bind fun bt161 => ((r14_Place.f a0).bind fun t171 => (if t171 = true then (if bt159.2 = true then (some bt161.2.2.2.2.2.2) else (some true)) else (some false))))
theorem r14_May.mono : ∀ a0 a1 k, LeO (r14_May.f k a0 a1) (r14_May.f (k + 1) a0 a1) := by
  intro a0 a1 k
  unfold r14_May.f
  repeat' first
      | (with_reducible exact passepartoutref08_Name.mono _ _ _)
      | (with_reducible exact LeO.refl _)
      | (with_reducible exact LeO.none _)
      | (with_reducible refine LeO.ite ?_ ?_)
      | (with_reducible refine LeO.bind ?_ (fun _ => ?_))
      | exact passepartoutref08_Name.mono _ _ _
      | exact LeO.none _
      | refine LeO.ite ?_ ?_
      | refine LeO.bind ?_ (fun _ => ?_)
set_option maxHeartbeats 8000000 in
set_option maxRecDepth 100000 in
theorem r14_May.calls (k : Nat) (a0 : Int) (a1 : Int) (r : Bool) (w : World) (h : r14_May.f k a0 a1 = some r) :
    Calls Try.prog 17 #[.int .i64 a0, .int .i64 a1] w fun e w' => e = .returned (.bool r) ∧ Below w.heap.size w w' := by
  have hu53 := Try.underlying53
  have HB := Aside0.mk (Below.refl w.heap.size w)
  have H : ((passepartoutref08_Name.f k 2 a1).bind fun bt159 => ((r13_Ext.f a0 a1).bind fun bt161 => ((r14_Place.f a0).bind fun t171 => (if t171 = true then (if bt159.2 = true then (some bt161.2.2.2.2.2.2) else (some true)) else (some false))))) = some r := h
  clear h
  replace H := Option.bind_eq_some_iff.mp H
  obtain ⟨⟨t159, t160⟩, A30, H⟩ := H
  replace H : ((r13_Ext.f a0 a1).bind fun bt161 => ((r14_Place.f a0).bind fun t171 => (if t171 = true then (if t160 = true then (some bt161.2.2.2.2.2.2) else (some true)) else (some false)))) = some r := H
  have A3 := Aside0.mk A30
  clear A30
  replace H := Option.bind_eq_some_iff.mp H
  obtain ⟨⟨t161, t162, t163, t164, t165, t166, t169⟩, A40, H⟩ := H
  replace H : ((r14_Place.f a0).bind fun t171 => (if t171 = true then (if t160 = true then (some t169) else (some true)) else (some false))) = some r := H
  have A4 := Aside0.mk A40
  clear A40
  replace H := Option.bind_eq_some_iff.mp H
  obtain ⟨t171, A50, H⟩ := H
  replace H : (if t171 = true then (if t160 = true then (some t169) else (some true)) else (some false)) = some r := H
  have A5 := Aside0.mk A50
  clear A50
  by_cases c6 : t171 = true
  · subst c6
    have H1 : (if t160 = true then (some t169) else (some true)) = some r := by rw [if_pos rfl] at H; exact H
    clear H
    have H := H1
    clear H1
    by_cases c7 : t160 = true
    · subst c7
      have H1 : (some t169) = some r := by rw [if_pos rfl] at H; exact H
      clear H
      have H := H1
      clear H1
      obtain rfl := Option.some.inj H
      go_enter Try.func17, Try.ntmps17
      go_wp2_with (first | ((with_reducible refine gate_callee (f := 12) rfl ?_); refine goesL_ (some 11) rfl rfl Try.func12 (by kernel_rfl) rfl #[.int .i64 2, .int .i64 a1] rfl (by (try simp only [List.map_toArray, List.map_cons, List.map_nil]); first | done | rfl | (simp only [List.length_drop, List.length_take]; rfl)) ?_; (with_reducible refine (passepartoutref08_Name.calls k 2 a1 t159 true _ A3.out).mono ?_); rintro e w8 ⟨rfl, hb⟩; refine ⟨_, rfl, ?_⟩; have n0_ := Aside0.mk (below_step (by repeat (first | (with_reducible first | exact HB.out | apply below_alloc | apply pw_below_drewN | apply below_drew1) | exact HB.out)) hb); clear HB; have HB := n0_; clear n0_; (try clear hb); (try clear hb2); (try clear hk); (try clear hi)) | ((with_reducible refine gate_callee (f := 23) rfl ?_); refine goesL_ (some 17) rfl rfl Try.func23 (by kernel_rfl) rfl #[.int .i64 a0, .int .i64 a1] rfl (by (try simp only [List.map_toArray, List.map_cons, List.map_nil]); first | done | rfl | (simp only [List.length_drop, List.length_take]; rfl)) ?_; (with_reducible refine (r13_Ext.calls a0 a1 t161 t162 t163 t164 t165 t166 t169 _ A4.out).mono ?_); rintro e w9 ⟨v167, rfl, ho0, hb⟩; refine ⟨_, rfl, ?_⟩; have n0_ := Aside0.mk (Kd.V_lower (Kd.V_mono (ok' := fun k_ => True) ho0 (fun k_ hk_ => trivial)) (below_size (by repeat (first | (with_reducible first | exact HB.out | apply below_alloc | apply pw_below_drewN | apply below_drew1) | exact HB.out)))); have n1_ := Aside0.mk (below_step (by repeat (first | (with_reducible first | exact HB.out | apply below_alloc | apply pw_below_drewN | apply below_drew1) | exact HB.out)) hb); clear HB; have HO168 := n0_; have HB := n1_; clear n0_ n1_; (try clear hb); (try clear hb2); (try clear hk); (try clear hi); (try clear ho0)) | ((with_reducible refine gate_dst (N := 7) rfl ?_); refine box_event ?hg (N := 7) ?hd (cs := #[.int .i64 0, .int .i64 0, .int .i64 0, .int .i64 0, .int .i64 0, .slice none 0 0]) (t := 53) ?hr ?_; (case hd => rfl); (case hg => rfl); (case hr => first | (go_simp; done) | (go_simp; rfl)); intro gb170 hg w10 hbox hb; have n0_ := Aside0.mk (Kd.V_below (Kd.V_elderB (by (with_reducible repeat (first | apply Kd.V_alloc | apply Kd.V_drewN | apply Kd.V_drew)); exact HO168.out) gb170 (Nat.le_of_eq hg.symm)) hb); have n1_ := Aside0.mk (below_step (by repeat (first | (with_reducible first | exact HB.out | apply below_alloc | apply pw_below_drewN | apply below_drew1) | exact HB.out)) hb); have n2_ := Aside0.mk (hbox); have n3_ := Aside0.mk ((by rw [hg]; exact (below_size (by repeat (first | (with_reducible first | exact HB.out | apply below_alloc | apply pw_below_drewN | apply below_drew1) | exact HB.out))) : w.heap.size ≤ gb170)); have n4_ := Aside0.mk ((by rw [hg]; exact (below_size (by repeat (first | (with_reducible first | exact HB.out | apply below_alloc | apply pw_below_drewN | apply below_drew1) | exact HB.out))) : w.heap.size ≤ gb170)); clear HO168; clear HB; have HO168 := n0_; have HB := n1_; have BK170 := n2_; have GW170 := n3_; have GE170 := n4_; clear n0_ n1_ n2_ n3_ n4_; clear hb hbox hg; have hcz11_0 : w10.cell? ⟨gb170, 0, none⟩ = some (.int .i64 0) := (blk_cell BK170.out 0).trans rfl; have hcz11_1 : w10.cell? ⟨gb170, 1, none⟩ = some (.int .i64 0) := (blk_cell BK170.out 1).trans rfl; have hcz11_2 : w10.cell? ⟨gb170, 2, none⟩ = some (.int .i64 0) := (blk_cell BK170.out 2).trans rfl; have hcz11_3 : w10.cell? ⟨gb170, 3, none⟩ = some (.int .i64 0) := (blk_cell BK170.out 3).trans rfl; have hcz11_4 : w10.cell? ⟨gb170, 4, none⟩ = some (.int .i64 0) := (blk_cell BK170.out 4).trans rfl; have hcz11_5 : w10.cell? ⟨gb170, 5, none⟩ = some (.slice none 0 0) := (blk_cell BK170.out 5).trans rfl; have hfz11_0 := blk_frozen BK170.out 0; have hfz11_1 := blk_frozen BK170.out 1; have hfz11_2 := blk_frozen BK170.out 2; have hfz11_3 := blk_frozen BK170.out 3; have hfz11_4 := blk_frozen BK170.out 4; have hfz11_5 := blk_frozen BK170.out 5; obtain ⟨Ao12, co12, eo12⟩ := Kd.V_slice HO168.out; subst eo12) | ((with_reducible refine gate_callee (f := 15) rfl ?_); refine goesL_ (some 21) rfl rfl Try.func15 (by kernel_rfl) rfl #[.int .i64 a0] rfl (by (try simp only [List.map_toArray, List.map_cons, List.map_nil]); first | done | rfl | (simp only [List.length_drop, List.length_take]; rfl)) ?_; (with_reducible refine (r14_Place.calls a0 true _ A5.out).mono ?_); rintro e w' ⟨rfl, ⟨nd, rfl⟩⟩; refine ⟨_, rfl, ?_⟩))
      go_ret
      exact ⟨by first | rfl | (simp [errW_none, errW_some] <;> rfl) | (simp [*, errW_none, errW_some] <;> rfl), by repeat (first | (with_reducible first | exact HB.out | apply below_alloc | apply pw_below_drewN | apply below_drew1 | refine below_set ?_ GE170.out) | exact HB.out)⟩
    · replace c7 := Bool.eq_false_iff.mpr c7
      subst c7
      have H1 : (some true) = some r := by rw [if_neg (show ¬ (false = true) by decide)] at H; exact H
      clear H
      have H := H1
      clear H1
      obtain rfl := Option.some.inj H
      go_enter Try.func17, Try.ntmps17
      go_wp2_with (first | ((with_reducible refine gate_callee (f := 12) rfl ?_); refine goesL_ (some 11) rfl rfl Try.func12 (by kernel_rfl) rfl #[.int .i64 2, .int .i64 a1] rfl (by (try simp only [List.map_toArray, List.map_cons, List.map_nil]); first | done | rfl | (simp only [List.length_drop, List.length_take]; rfl)) ?_; (with_reducible refine (passepartoutref08_Name.calls k 2 a1 t159 false _ A3.out).mono ?_); rintro e w13 ⟨rfl, hb⟩; refine ⟨_, rfl, ?_⟩; have n0_ := Aside0.mk (below_step (by repeat (first | (with_reducible first | exact HB.out | apply below_alloc | apply pw_below_drewN | apply below_drew1) | exact HB.out)) hb); clear HB; have HB := n0_; clear n0_; (try clear hb); (try clear hb2); (try clear hk); (try clear hi)) | ((with_reducible refine gate_callee (f := 23) rfl ?_); refine goesL_ (some 17) rfl rfl Try.func23 (by kernel_rfl) rfl #[.int .i64 a0, .int .i64 a1] rfl (by (try simp only [List.map_toArray, List.map_cons, List.map_nil]); first | done | rfl | (simp only [List.length_drop, List.length_take]; rfl)) ?_; (with_reducible refine (r13_Ext.calls a0 a1 t161 t162 t163 t164 t165 t166 t169 _ A4.out).mono ?_); rintro e w14 ⟨v167, rfl, ho0, hb⟩; refine ⟨_, rfl, ?_⟩; have n0_ := Aside0.mk (Kd.V_lower (Kd.V_mono (ok' := fun k_ => True) ho0 (fun k_ hk_ => trivial)) (below_size (by repeat (first | (with_reducible first | exact HB.out | apply below_alloc | apply pw_below_drewN | apply below_drew1) | exact HB.out)))); have n1_ := Aside0.mk (below_step (by repeat (first | (with_reducible first | exact HB.out | apply below_alloc | apply pw_below_drewN | apply below_drew1) | exact HB.out)) hb); clear HB; have HO168 := n0_; have HB := n1_; clear n0_ n1_; (try clear hb); (try clear hb2); (try clear hk); (try clear hi); (try clear ho0)) | ((with_reducible refine gate_dst (N := 7) rfl ?_); refine box_event ?hg (N := 7) ?hd (cs := #[.int .i64 0, .int .i64 0, .int .i64 0, .int .i64 0, .int .i64 0, .slice none 0 0]) (t := 53) ?hr ?_; (case hd => rfl); (case hg => rfl); (case hr => first | (go_simp; done) | (go_simp; rfl)); intro gb170 hg w15 hbox hb; have n0_ := Aside0.mk (Kd.V_below (Kd.V_elderB (by (with_reducible repeat (first | apply Kd.V_alloc | apply Kd.V_drewN | apply Kd.V_drew)); exact HO168.out) gb170 (Nat.le_of_eq hg.symm)) hb); have n1_ := Aside0.mk (below_step (by repeat (first | (with_reducible first | exact HB.out | apply below_alloc | apply pw_below_drewN | apply below_drew1) | exact HB.out)) hb); have n2_ := Aside0.mk (hbox); have n3_ := Aside0.mk ((by rw [hg]; exact (below_size (by repeat (first | (with_reducible first | exact HB.out | apply below_alloc | apply pw_below_drewN | apply below_drew1) | exact HB.out))) : w.heap.size ≤ gb170)); have n4_ := Aside0.mk ((by rw [hg]; exact (below_size (by repeat (first | (with_reducible first | exact HB.out | apply below_alloc | apply pw_below_drewN | apply below_drew1) | exact HB.out))) : w.heap.size ≤ gb170)); clear HO168; clear HB; have HO168 := n0_; have HB := n1_; have BK170 := n2_; have GW170 := n3_; have GE170 := n4_; clear n0_ n1_ n2_ n3_ n4_; clear hb hbox hg; have hcz16_0 : w15.cell? ⟨gb170, 0, none⟩ = some (.int .i64 0) := (blk_cell BK170.out 0).trans rfl; have hcz16_1 : w15.cell? ⟨gb170, 1, none⟩ = some (.int .i64 0) := (blk_cell BK170.out 1).trans rfl; have hcz16_2 : w15.cell? ⟨gb170, 2, none⟩ = some (.int .i64 0) := (blk_cell BK170.out 2).trans rfl; have hcz16_3 : w15.cell? ⟨gb170, 3, none⟩ = some (.int .i64 0) := (blk_cell BK170.out 3).trans rfl; have hcz16_4 : w15.cell? ⟨gb170, 4, none⟩ = some (.int .i64 0) := (blk_cell BK170.out 4).trans rfl; have hcz16_5 : w15.cell? ⟨gb170, 5, none⟩ = some (.slice none 0 0) := (blk_cell BK170.out 5).trans rfl; have hfz16_0 := blk_frozen BK170.out 0; have hfz16_1 := blk_frozen BK170.out 1; have hfz16_2 := blk_frozen BK170.out 2; have hfz16_3 := blk_frozen BK170.out 3; have hfz16_4 := blk_frozen BK170.out 4; have hfz16_5 := blk_frozen BK170.out 5; obtain ⟨Ao17, co17, eo17⟩ := Kd.V_slice HO168.out; subst eo17) | ((with_reducible refine gate_callee (f := 15) rfl ?_); refine goesL_ (some 21) rfl rfl Try.func15 (by kernel_rfl) rfl #[.int .i64 a0] rfl (by (try simp only [List.map_toArray, List.map_cons, List.map_nil]); first | done | rfl | (simp only [List.length_drop, List.length_take]; rfl)) ?_; (with_reducible refine (r14_Place.calls a0 true _ A5.out).mono ?_); rintro e w' ⟨rfl, ⟨nd, rfl⟩⟩; refine ⟨_, rfl, ?_⟩))
      go_ret
      exact ⟨by first | rfl | (simp [errW_none, errW_some] <;> rfl) | (simp [*, errW_none, errW_some] <;> rfl), by repeat (first | (with_reducible first | exact HB.out | apply below_alloc | apply pw_below_drewN | apply below_drew1 | refine below_set ?_ GE170.out) | exact HB.out)⟩
  · replace c6 := Bool.eq_false_iff.mpr c6
    subst c6
    have H1 : (some false) = some r := by rw [if_neg (show ¬ (false = true) by decide)] at H; exact H
    clear H
    have H := H1
    clear H1
    obtain rfl := Option.some.inj H
    go_enter Try.func17, Try.ntmps17
    go_wp2_with (first | ((with_reducible refine gate_callee (f := 12) rfl ?_); refine goesL_ (some 11) rfl rfl Try.func12 (by kernel_rfl) rfl #[.int .i64 2, .int .i64 a1] rfl (by (try simp only [List.map_toArray, List.map_cons, List.map_nil]); first | done | rfl | (simp only [List.length_drop, List.length_take]; rfl)) ?_; (with_reducible refine (passepartoutref08_Name.calls k 2 a1 t159 t160 _ A3.out).mono ?_); rintro e w18 ⟨rfl, hb⟩; refine ⟨_, rfl, ?_⟩; have n0_ := Aside0.mk (below_step (by repeat (first | (with_reducible first | exact HB.out | apply below_alloc | apply pw_below_drewN | apply below_drew1) | exact HB.out)) hb); clear HB; have HB := n0_; clear n0_; (try clear hb); (try clear hb2); (try clear hk); (try clear hi)) | ((with_reducible refine gate_callee (f := 23) rfl ?_); refine goesL_ (some 17) rfl rfl Try.func23 (by kernel_rfl) rfl #[.int .i64 a0, .int .i64 a1] rfl (by (try simp only [List.map_toArray, List.map_cons, List.map_nil]); first | done | rfl | (simp only [List.length_drop, List.length_take]; rfl)) ?_; (with_reducible refine (r13_Ext.calls a0 a1 t161 t162 t163 t164 t165 t166 t169 _ A4.out).mono ?_); rintro e w19 ⟨v167, rfl, ho0, hb⟩; refine ⟨_, rfl, ?_⟩; have n0_ := Aside0.mk (Kd.V_lower (Kd.V_mono (ok' := fun k_ => True) ho0 (fun k_ hk_ => trivial)) (below_size (by repeat (first | (with_reducible first | exact HB.out | apply below_alloc | apply pw_below_drewN | apply below_drew1) | exact HB.out)))); have n1_ := Aside0.mk (below_step (by repeat (first | (with_reducible first | exact HB.out | apply below_alloc | apply pw_below_drewN | apply below_drew1) | exact HB.out)) hb); clear HB; have HO168 := n0_; have HB := n1_; clear n0_ n1_; (try clear hb); (try clear hb2); (try clear hk); (try clear hi); (try clear ho0)) | ((with_reducible refine gate_dst (N := 7) rfl ?_); refine box_event ?hg (N := 7) ?hd (cs := #[.int .i64 0, .int .i64 0, .int .i64 0, .int .i64 0, .int .i64 0, .slice none 0 0]) (t := 53) ?hr ?_; (case hd => rfl); (case hg => rfl); (case hr => first | (go_simp; done) | (go_simp; rfl)); intro gb170 hg w20 hbox hb; have n0_ := Aside0.mk (Kd.V_below (Kd.V_elderB (by (with_reducible repeat (first | apply Kd.V_alloc | apply Kd.V_drewN | apply Kd.V_drew)); exact HO168.out) gb170 (Nat.le_of_eq hg.symm)) hb); have n1_ := Aside0.mk (below_step (by repeat (first | (with_reducible first | exact HB.out | apply below_alloc | apply pw_below_drewN | apply below_drew1) | exact HB.out)) hb); have n2_ := Aside0.mk (hbox); have n3_ := Aside0.mk ((by rw [hg]; exact (below_size (by repeat (first | (with_reducible first | exact HB.out | apply below_alloc | apply pw_below_drewN | apply below_drew1) | exact HB.out))) : w.heap.size ≤ gb170)); have n4_ := Aside0.mk ((by rw [hg]; exact (below_size (by repeat (first | (with_reducible first | exact HB.out | apply below_alloc | apply pw_below_drewN | apply below_drew1) | exact HB.out))) : w.heap.size ≤ gb170)); clear HO168; clear HB; have HO168 := n0_; have HB := n1_; have BK170 := n2_; have GW170 := n3_; have GE170 := n4_; clear n0_ n1_ n2_ n3_ n4_; clear hb hbox hg; have hcz21_0 : w20.cell? ⟨gb170, 0, none⟩ = some (.int .i64 0) := (blk_cell BK170.out 0).trans rfl; have hcz21_1 : w20.cell? ⟨gb170, 1, none⟩ = some (.int .i64 0) := (blk_cell BK170.out 1).trans rfl; have hcz21_2 : w20.cell? ⟨gb170, 2, none⟩ = some (.int .i64 0) := (blk_cell BK170.out 2).trans rfl; have hcz21_3 : w20.cell? ⟨gb170, 3, none⟩ = some (.int .i64 0) := (blk_cell BK170.out 3).trans rfl; have hcz21_4 : w20.cell? ⟨gb170, 4, none⟩ = some (.int .i64 0) := (blk_cell BK170.out 4).trans rfl; have hcz21_5 : w20.cell? ⟨gb170, 5, none⟩ = some (.slice none 0 0) := (blk_cell BK170.out 5).trans rfl; have hfz21_0 := blk_frozen BK170.out 0; have hfz21_1 := blk_frozen BK170.out 1; have hfz21_2 := blk_frozen BK170.out 2; have hfz21_3 := blk_frozen BK170.out 3; have hfz21_4 := blk_frozen BK170.out 4; have hfz21_5 := blk_frozen BK170.out 5; obtain ⟨Ao22, co22, eo22⟩ := Kd.V_slice HO168.out; subst eo22) | ((with_reducible refine gate_callee (f := 15) rfl ?_); refine goesL_ (some 21) rfl rfl Try.func15 (by kernel_rfl) rfl #[.int .i64 a0] rfl (by (try simp only [List.map_toArray, List.map_cons, List.map_nil]); first | done | rfl | (simp only [List.length_drop, List.length_take]; rfl)) ?_; (with_reducible refine (r14_Place.calls a0 false _ A5.out).mono ?_); rintro e w' ⟨rfl, ⟨nd, rfl⟩⟩; refine ⟨_, rfl, ?_⟩))
    go_ret
    exact ⟨by first | rfl | (simp [errW_none, errW_some] <;> rfl) | (simp [*, errW_none, errW_some] <;> rfl), by repeat (first | (with_reducible first | exact HB.out | apply below_alloc | apply pw_below_drewN | apply below_drew1 | refine below_set ?_ GE170.out) | exact HB.out)⟩

end Go.Proofs.Ytpndiobbogelpaa.PLegalChecks
