/- The Go functions hand.New, Held and Partial, and what a call of Put says to a law that has made the hand; no condition beyond the lemmas' own. -/
import Derived.Test.YtmdmllfbdpoeeaaHHandPut
import Derived.Laws.BytesArg
namespace Go.Proofs.Ytmdmllfbdpoeeaa
open Go Go.RowKit Go.Maps Go.Proofs.Hand Go.Proofs.YtmdmllfbdpoeeaaW.PrintWords Go.Proofs.YtmdmllfbdpoeeaaW.PrintLast Go.Proofs.YtmdmllfbdpoeeaaW.PrintMore
set_option maxRecDepth 100000
set_option linter.unusedVariables false
set_option linter.unusedSimpArgs false

def hand0 (most : Int) : HSt := ⟨most, [], [], 0, 0⟩
theorem New_ok (n : Int) (w : World) (h0 : 4 ≤ n) (h1 : n ≤ 16777219) :
    Calls Try.prog 10 #[.int .i64 n] w fun e w' => e = .returned (.tuple #[.pointer (some ⟨w.heap.size, 0, none⟩), .int .i64 0]) ∧ w.alloc (.cells #[.int .i64 n, .slice none 0 0, .slice none 0 0, .int .i64 0, .int .i64 0, .int .i64 0, .int .i64 0] 57) = w' := by
  go_enter Try.func10, Try.ntmps10
  go_wp2
  go_ret2
  exact ⟨rfl, rfl⟩
theorem New_bad (n : Int) (w : World) (h : n < 4 ∨ 16777219 < n) :
    Calls Try.prog 10 #[.int .i64 n] w fun e w' => e = .returned (.tuple #[.pointer none, .int .i64 3]) ∧ w = w' := by
  rcases h with h | h
  · go_enter Try.func10, Try.ntmps10
    go_wp2
    go_ret2
    exact ⟨rfl, rfl⟩
  · have h2 : ¬ n < 4 := by omega
    go_enter Try.func10, Try.ntmps10
    go_wp2
    go_ret2
    exact ⟨rfl, rfl⟩
theorem segL_nil : segL [] = [] := rfl
theorem New_is (n : Int) (w : World) (B : Nat) (hB : B ≤ w.heap.size) : HandIs (w.alloc (.cells #[.int .i64 n, .slice none 0 0, .slice none 0 0, .int .i64 0, .int .i64 0, .int .i64 0, .int .i64 0] 57)) B w.heap.size (.slice none 0 0) (.slice none 0 0) (hand0 n) :=
  ⟨0, 0, ⟨heap_at _ _ _ rfl, Kd.R_nil _ _ _ _ _, Kd.R_nil _ _ _ _ _, hB⟩, ⟨rfl, fun h => absurd h (by show ¬ 4 ≤ 0; decide), fun h => absurd rfl h, fun _ => rfl, (fun _ h => by cases h), (fun _ h => by cases h)⟩⟩
theorem HandIs.lowAll {W : World} {B g : Nat} {vD vS : Value} {s : HSt} (h : HandIs W B g vD vS s) {k : Nat} (hk : ownOf g vD vS k) : B ≤ k := by
  obtain ⟨need, next, hr, _⟩ := h
  exact hr.lowAll hk
theorem HandIs.lt {W : World} {B g : Nat} {vD vS : Value} {s : HSt} (h : HandIs W B g vD vS s) {k : Nat} (hk : ownOf g vD vS k) : k < W.heap.size := by
  obtain ⟨need, next, hr, _⟩ := h
  exact hr.lt hk
theorem Held_nil (w : World) : Calls Try.prog 13 #[.pointer none] w fun e w' => e = .returned (.int .i64 0) ∧ w = w' := by
  go_enter Try.func13, Try.ntmps13
  go_wp2
  go_ret
  exact ⟨rfl, rfl⟩
theorem Held_calls {B g : Nat} {vD vS : Value} {s : HSt} (w : World) (h : HandIs w B g vD vS s) : Calls Try.prog 13 #[.pointer (some ⟨g, 0, none⟩)] w fun e w' => e = .returned (.int .i64 (s.data.length : Int)) ∧ w = w' := by
  obtain ⟨need, next, hr, _⟩ := h
  obtain ⟨A, c, rfl, -⟩ := R_val hr.dat
  obtain ⟨y0, y1, y2, y3, y4, y5, y6⟩ := cells7 hr.blk
  clear hr
  go_enter Try.func13, Try.ntmps13
  go_wp2
  go_ret
  exact ⟨rfl, rfl⟩
theorem Partial_nil (w : World) : Calls Try.prog 20 #[.pointer none] w fun e w' => e = .returned (.bool false) ∧ w = w' := by
  go_enter Try.func20, Try.ntmps20
  go_wp2_with (first
    | (go_at_call 13; refine (Held_nil _).mono ?_; rintro e w' ⟨rfl, rfl⟩))
  go_ret
  exact ⟨rfl, rfl⟩
theorem Partial_calls {B g : Nat} {vD vS : Value} {s : HSt} (w : World) (h : HandIs w B g vD vS s) : Calls Try.prog 20 #[.pointer (some ⟨g, 0, none⟩)] w fun e w' => e = .returned (.bool (decide (0 < s.data.length))) ∧ w = w' := by
  have h := Aside0.mk h
  go_enter Try.func20, Try.ntmps20
  go_wp2_with (first
    | (go_at_call 13; refine (Held_calls _ h.out).mono ?_; rintro e w' ⟨rfl, rfl⟩))
  go_ret
  exact ⟨rfl, rfl⟩
/-- A law's own hand, and what it was told. -/
def PutLaw (w0 : World) (B g : Nat) (W : World) (own0 : Nat → Prop) (R : HSt × List (List Int × List Int)) (e : Ending) (w' : World) : Prop := ∃ A c vD vS x y, e = .returned (.tuple #[.slice A R.2.length c, .int .i64 x, .int .i64 y]) ∧ Aside0 (x = if R.1.err = 0 then 0 else R.1.eat) ∧ Aside0 (y = R.1.err) ∧ R.2.length ≤ c ∧
  HandIs w' B g vD vS R.1 ∧ Kd.N k37 37 w' W.heap.size (fun k => W.heap.size ≤ k ∧ ¬ ownOf g vD vS k) (.slice A R.2.length c) (R.2.map foundOf) ∧ Below B w0 w' ∧ Kp W w' own0 ∧ ∀ k, ownOf g vD vS k → own0 k ∨ W.heap.size ≤ k
/-- A piece put to a hand, whatever it has been told before. -/
theorem Put_law (w0 : World) (g B : Nat) (vD0 vS0 : Value) (s0 : HSt) (a : Int) (A : Option Addr) (c : Nat) (b : List Int) (okb : Nat → Prop) (w : World) (hH : HandIs w B g vD0 vS0 s0) (hb : Below B w0 w) (hC : Kd.F (Kd.int .u8) w okb A b.length b) (hc : b.length ≤ c) (hap : ∀ k, okb k → ¬ ownOf g vD0 vS0 k)
    (hby : ∀ x ∈ b, 0 ≤ x ∧ x ≤ 255) (h0 : 0 ≤ a) (hat : a + b.length ≤ 5000000000000) (hfew : s0.data.length + b.length ≤ 1000000) :
    Calls Try.prog 12 #[.pointer (some ⟨g, 0, none⟩), .int .i64 a, .slice A b.length c] w (PutLaw w0 B g w (ownOf g vD0 vS0) (feed s0 (zipAt b a))) := by
  have hB : B ≤ w.heap.size := Nat.le_of_lt (Nat.lt_of_le_of_lt (hH.lowAll (.inl rfl)) (hH.lt (.inl rfl)))
  by_cases he : s0.err = 0
  · refine (Put_calls g B vD0 vS0 s0 a A c b okb w hH hC hc hap hby h0 hat hfew he).mono ?_
    rintro e w' ⟨v, vD, vS, rfl, hi, hn, hk, ho⟩
    obtain ⟨A1, c1, rfl, hl, -⟩ := Kd.N_reads hn
    rw [List.length_map] at hl hn ⊢
    exact ⟨A1, c1, vD, vS, _, _, rfl, Aside0.mk rfl, Aside0.mk rfl, hl, hi, hn, hk.belowB hb hB (fun k hk2 => hH.lowAll hk2), hk, ho⟩
  · obtain ⟨need, next, hr, hf⟩ := hH
    refine (Put_err g a A b.length c w s0.most need next s0.eat s0.err vD0 vS0 hr.blk he).mono ?_
    rintro e w' ⟨rfl, m, rfl⟩
    rw [feed_err he]
    refine ⟨none, 0, vD0, vS0, _, _, ?_, Aside0.mk rfl, Aside0.mk rfl, Nat.le_refl _, ⟨need, next, hr.keep (fun _ _ _ => by simp), hf⟩, Kd.N_nil _ _ _ _ _, pw_below_drewN hb m, (Kp.refl _ _).drewN m, fun k hk => .inl hk⟩
    show _ = Ending.returned (.tuple #[.slice none 0 0, .int .i64 (if s0.err = 0 then 0 else s0.eat), .int .i64 s0.err])
    rw [if_neg he]
/-- A row of bytes, made a string. -/
theorem run_string (w : World) (A : Option Addr) (n c : Nat) (l : List Int) (hC : (Kd.int .u8).C w A n l) : (convert 22 9 (.slice A n c)).run Try.prog w = .ok (.string (strOfNums l)) w := by
  have hlen := hC.1
  cases A with
  | none =>
    have h0 : n = 0 := by
      rcases Nat.eq_zero_or_pos n with h | h
      · exact h
      · obtain ⟨ad, e, _⟩ := hC.2.2 h
        cases e
    subst h0
    obtain rfl := List.eq_nil_of_length_eq_zero hlen
    rw [run_convert_bytes_nil (P := Try.prog) w 22 5 Try.underlying22 Try.underlying5 0 c 9 Try.underlying9]
    rfl
  | some ad =>
    have hl : (loadCells ad n).run Try.prog w = .ok (l.map (Value.int .u8)).toArray w := by
      have := run_loadCells_list (P := Try.prog) w ad (l.map (Value.int .u8)) (fun j v hj => by
        rw [List.getElem?_map] at hj
        obtain ⟨x, hx, rfl⟩ := Option.map_eq_some_iff.1 hj
        have hjl := (List.getElem?_eq_some_iff.1 hx).1
        obtain ⟨ad', e, hc⟩ := hC.2.2 (by omega)
        injection e with e
        subst e
        obtain ⟨cs, _, hk, hcell⟩ := hc j x hx
        have hk2 : cs = [Value.int .u8 x] := hk
        subst hk2
        have := hcell 0 _ rfl
        simpa [Kd.int, Kd.scalar] using this)
      simpa [hlen] using this
    rw [run_convert_bytes_string w 22 9 5 (some ad) n c Try.underlying22 Try.underlying5 Try.underlying9, run_bytesToString w _ n c l hl, foldl_push_bytes]
    simp [strOfNums, ByteArray.empty, ByteArray.emptyWithCapacity]
    rfl
end Go.Proofs.Ytmdmllfbdpoeeaa
