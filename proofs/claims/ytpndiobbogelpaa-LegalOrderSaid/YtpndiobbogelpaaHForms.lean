/- The Go functions of package layout that make forms, and the ones of package shape that make them out of these, do so in whatever state; no condition beyond the lemmas' own. -/
import Derived.Test.YtpndiobbogelpaaHClone
namespace Go.Proofs.Ytpndiobbogelpaa
open Go Go.RowKit Go.Maps Go.Proofs.Hand Go.Proofs.YtpndiobbogelpaaW.PrintWords Go.Proofs.YtpndiobbogelpaaW.PrintLast Go.Proofs.YtpndiobbogelpaaW.PrintMore
set_option maxRecDepth 100000

section
variable {W : World} {ms : List (Nat × Nat)} (hms : ∀ t k, (t, k) ∈ ms → k < W.heap.size)
include hms
theorem new_out : ∀ k, W.heap.size ≤ k → ¬ inM ms k := fun k hk ⟨t, ht⟩ => by have := hms t k ht; omega
theorem sat_R {W' : World} {v5 : Value} {l : List Form} (a0 a1 a2 a3 a4 : Int) (h : Kd.R kForm 53 W' W.heap.size (fun _ => True) v5 l) (t : Nat) : Sat W' ms t (.agg #[.int .i64 a0, .int .i64 a1, .int .i64 a2, .int .i64 a3, .int .i64 a4, v5]) (.form ⟨a0, a1, a2, a3, a4, l⟩) :=
  ⟨[.int .i64 a0, .int .i64 a1, .int .i64 a2, .int .i64 a3, .int .i64 a4, v5], rfl, form_mk a0 a1 a2 a3 a4 (Kd.N_mono (Kd.R_N (Kd.R_bound h)) (fun k hk => new_out hms k hk.2.1))⟩
theorem number_ok (n : Int) : Calls Try.prog 39 #[.int .i64 n] W fun e W' => ∃ v, e = .returned v ∧ Below W.heap.size W W' ∧ ∀ t, Sat W' ms t v (.form ⟨0, n, 0, 0, 0, []⟩) := by
  refine (layout_Number.calls n 0 n 0 0 0 [] W rfl).mono ?_
  rintro e W' ⟨v5, rfl, hR, hb⟩
  exact ⟨_, rfl, hb, sat_R hms 0 n 0 0 0 hR⟩
theorem opaque_ok (a b c : Int) : Calls Try.prog 41 #[.int .i64 a, .int .i64 b, .int .i64 c] W fun e W' => ∃ v, e = .returned v ∧ Below W.heap.size W W' ∧ ∀ t, Sat W' ms t v (.form ⟨1, a, b, c, 1, []⟩) := by
  refine (layout_Opaque.calls a b c 1 a b c 1 [] W rfl).mono ?_
  rintro e W' ⟨v5, rfl, hR, hb⟩
  exact ⟨_, rfl, hb, sat_R hms 1 a b c 1 hR⟩
theorem rest_ok (a b : Int) : Calls Try.prog 45 #[.int .i64 a, .int .i64 b] W fun e W' => ∃ v, e = .returned v ∧ Below W.heap.size W W' ∧ ∀ t, Sat W' ms t v (.form ⟨4, 0, a, b, 0, []⟩) := by
  refine (layout_Rest.calls a b 4 0 a b 0 [] W rfl).mono ?_
  rintro e W' ⟨v5, rfl, hR, hb⟩
  exact ⟨_, rfl, hb, sat_R hms 4 0 a b 0 hR⟩
theorem list_ok (a b c d : Int) (f : Form) (v : Value) (h : FormIn W ms v f) : Calls Try.prog 42 #[.int .i64 a, .int .i64 b, .int .i64 c, .int .i64 d, v] W fun e W' => ∃ v, e = .returned v ∧ Below W.heap.size W W' ∧ ∀ t, Sat W' ms t v (.form ⟨2, a, b, c, d, [f]⟩) := by
  obtain ⟨cs, rfl, hf⟩ := h
  obtain ⟨f0, f1, f2, f3, f4, f5⟩ := f
  obtain ⟨A5, c5, rfl, l5, hF⟩ := k53_openF hf
  refine (layout_List.calls a b c d f0 f1 f2 f3 f4 (fun k => ¬ inM ms k) A5 c5 f5 2 a b c d [⟨f0, f1, f2, f3, f4, f5⟩] W (Kd.V_mk l5 hF) rfl).mono ?_
  rintro e W' ⟨v5, rfl, hN, hb⟩
  exact ⟨_, rfl, hb, fun t => ⟨[.int .i64 2, .int .i64 a, .int .i64 b, .int .i64 c, .int .i64 d, v5], rfl, form_mk 2 a b c d (Kd.N_mono hN (fun k hk => hk.elim id (new_out hms k)))⟩⟩
end

/-- What the functions of package layout do, told by what values mean. -/
def layAbs (g : Nat) (svs : List SV) : Option SV :=
  if g = 39 then (match svs with | [.int n] => some (.form ⟨0, n, 0, 0, 0, []⟩) | _ => none)
  else if g = 41 then (match svs with | [.int a, .int b, .int c] => some (.form ⟨1, a, b, c, 1, []⟩) | _ => none)
  else if g = 42 then (match svs with | [.int a, .int b, .int c, .int d, .form f] => some (.form ⟨2, a, b, c, d, [f]⟩) | _ => none)
  else if g = 40 then (match svs with | [.forms l] => if l.length ≤ 1000 then some (.form ⟨3, 0, 0, 0, 0, l⟩) else none | _ => none)
  else if g = 45 then (match svs with | [.int a, .int b] => some (.form ⟨4, 0, a, b, 0, []⟩) | _ => none)
  else none
theorem sats1 {W : World} {ms : List (Nat × Nat)} {args : List Value} {s : SV} (h : Sats W ms args [s]) : ∃ v, args = [v] ∧ Sat W ms tabSlot v s := by
  match args, h with
  | [v], h => exact ⟨v, rfl, h.1⟩
theorem sats2 {W : World} {ms : List (Nat × Nat)} {args : List Value} {s s2 : SV} (h : Sats W ms args [s, s2]) : ∃ v v2, args = [v, v2] ∧ Sat W ms tabSlot v s ∧ Sat W ms tabSlot v2 s2 := by
  match args, h with
  | [v, v2], h => exact ⟨v, v2, rfl, h.1, h.2.1⟩
theorem sats3 {W : World} {ms : List (Nat × Nat)} {args : List Value} {s s2 s3 : SV} (h : Sats W ms args [s, s2, s3]) : ∃ v v2 v3, args = [v, v2, v3] ∧ Sat W ms tabSlot v s ∧ Sat W ms tabSlot v2 s2 ∧ Sat W ms tabSlot v3 s3 := by
  match args, h with
  | [v, v2, v3], h => exact ⟨v, v2, v3, rfl, h.1, h.2.1, h.2.2.1⟩
theorem sats4 {W : World} {ms : List (Nat × Nat)} {args : List Value} {s s2 s3 s4 : SV} (h : Sats W ms args [s, s2, s3, s4]) : ∃ v v2 v3 v4, args = [v, v2, v3, v4] ∧ Sat W ms tabSlot v s ∧ Sat W ms tabSlot v2 s2 ∧ Sat W ms tabSlot v3 s3 ∧ Sat W ms tabSlot v4 s4 := by
  match args, h with
  | [v, v2, v3, v4], h => exact ⟨v, v2, v3, v4, rfl, h.1, h.2.1, h.2.2.1, h.2.2.2.1⟩
theorem sats5 {W : World} {ms : List (Nat × Nat)} {args : List Value} {s s2 s3 s4 s5 : SV} (h : Sats W ms args [s, s2, s3, s4, s5]) : ∃ v v2 v3 v4 v5, args = [v, v2, v3, v4, v5] ∧ Sat W ms tabSlot v s ∧ Sat W ms tabSlot v2 s2 ∧ Sat W ms tabSlot v3 s3 ∧ Sat W ms tabSlot v4 s4 ∧ Sat W ms tabSlot v5 s5 := by
  match args, h with
  | [v, v2, v3, v4, v5], h => exact ⟨v, v2, v3, v4, v5, rfl, h.1, h.2.1, h.2.2.1, h.2.2.2.1, h.2.2.2.2.1⟩
theorem lay_in (g : Nat) (svs : List SV) (r : SV) (h : layAbs g svs = some r) : Enters Try.prog g := by
  unfold layAbs at h
  split at h
  · rename_i e; subst e; exact enters_of Try.func39 (by kernel_rfl) rfl
  split at h
  · rename_i e; subst e; exact enters_of Try.func41 (by kernel_rfl) rfl
  split at h
  · rename_i e; subst e; exact enters_of Try.func42 (by kernel_rfl) rfl
  split at h
  · rename_i e; subst e; exact enters_of Try.func40 (by kernel_rfl) rfl
  split at h
  · rename_i e; subst e; exact enters_of Try.func45 (by kernel_rfl) rfl
  cases h
theorem lay_ok (g : Nat) (svs : List SV) (r : SV) (args : List Value) (W : World) (ms : List (Nat × Nat)) (h : layAbs g svs = some r) (hs : Sats W ms args svs) (hms : ∀ t k, (t, k) ∈ ms → k < W.heap.size) :
    Calls Try.prog g args.toArray W fun e W' => ∃ v, e = .returned v ∧ Below W.heap.size W W' ∧ ∀ t, Sat W' ms t v r := by
  unfold layAbs at h
  split at h
  · rename_i e; subst e
    split at h
    case h_2 => cases h
    obtain rfl := (Option.some.inj h).symm
    obtain ⟨v, rfl, e1⟩ := sats1 hs
    obtain rfl : v = _ := e1
    exact number_ok hms _
  split at h
  · rename_i e; subst e
    split at h
    case h_2 => cases h
    obtain rfl := (Option.some.inj h).symm
    obtain ⟨v, v2, v3, rfl, e1, e2, e3⟩ := sats3 hs
    obtain rfl : v = _ := e1
    obtain rfl : v2 = _ := e2
    obtain rfl : v3 = _ := e3
    exact opaque_ok hms _ _ _
  split at h
  · rename_i e; subst e
    split at h
    case h_2 => cases h
    obtain rfl := (Option.some.inj h).symm
    obtain ⟨v, v2, v3, v4, v5, rfl, e1, e2, e3, e4, e5⟩ := sats5 hs
    obtain rfl : v = _ := e1
    obtain rfl : v2 = _ := e2
    obtain rfl : v3 = _ := e3
    obtain rfl : v4 = _ := e4
    exact list_ok hms _ _ _ _ _ v5 e5
  split at h
  · rename_i e; subst e
    split at h
    case h_2 => cases h
    split at h
    case isFalse => cases h
    rename_i hl
    obtain rfl := (Option.some.inj h).symm
    obtain ⟨v, rfl, e1⟩ := sats1 hs
    exact row_ok W ms v _ hl hms e1
  split at h
  · rename_i e; subst e
    split at h
    case h_2 => cases h
    obtain rfl := (Option.some.inj h).symm
    obtain ⟨v, v2, rfl, e1, e2⟩ := sats2 hs
    obtain rfl : v = _ := e1
    obtain rfl : v2 = _ := e2
    exact rest_ok hms _ _
  cases h
end Go.Proofs.Ytpndiobbogelpaa
