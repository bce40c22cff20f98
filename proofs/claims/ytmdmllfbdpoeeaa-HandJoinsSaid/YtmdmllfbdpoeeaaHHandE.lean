/- Parts of the walk of the Go function hand.Hand.Put: it feeds the bytes of a piece, each with its place, to the machine of messages; the hand's cells hold what it says behind it; bytes and places are few enough. -/
import Derived.Test.YtmdmllfbdpoeeaaHHandD
import Derived.Deep.RegionLaw
import Derived.Deep.DeepCutAuto
import Derived.BigQuiet
import Derived.BigRegion
import Derived.IntWalk
namespace Go.Proofs.Ytmdmllfbdpoeeaa
open Go Go.RowKit Go.Maps Go.Proofs.Hand Go.Proofs.YtmdmllfbdpoeeaaW.PrintWords Go.Proofs.YtmdmllfbdpoeeaaW.PrintLast Go.Proofs.YtmdmllfbdpoeeaaW.PrintMore
set_option maxRecDepth 100000
set_option linter.unusedVariables false
set_option linter.unusedSimpArgs false

theorem Put_nil (a : Int) (A : Option Addr) (n c : Nat) (w : World) :
    Calls Try.prog 12 #[.pointer none, .int .i64 a, .slice A n c] w fun e w' => e = .returned (.tuple #[.slice none 0 0, .int .i64 0, .int .i64 1]) ∧ w = w' := by
  go_enter Try.func12, Try.ntmps12
  go_wp2
  go_ret3
  exact ⟨rfl, rfl⟩
theorem Put_err (g : Nat) (a : Int) (A : Option Addr) (n c : Nat) (w : World) (most need next eat err : Int) (vD vS : Value) (hb : w.heap[g]? = some (.cells #[.int .i64 most, vD, vS, .int .i64 need, .int .i64 next, .int .i64 eat, .int .i64 err] 57 (0, 0))) (he : err ≠ 0) :
    Calls Try.prog 12 #[.pointer (some ⟨g, 0, none⟩), .int .i64 a, .slice A n c] w fun e w' => e = .returned (.tuple #[.slice none 0 0, .int .i64 eat, .int .i64 err]) ∧ ∃ m, w' = w.drewN m := by
  obtain ⟨y0, y1, y2, y3, y4, y5, y6⟩ := cells7 hb
  replace hb := Aside0.mk hb
  have k6 : (err != 0) = true := by simpa using he
  go_enter Try.func12, Try.ntmps12
  go_wp2
  go_quiet (fail)
  go_wp2
  go_ret3
  exact ⟨rfl, _, rfl⟩
def lenOf : Value → Nat
  | .slice _ n _ => n
  | _ => 0
def foundOf (m : List Int × List Int) : S37 := ⟨m.1, segL m.2⟩
/-- What holds at every round's head. -/
structure PutAt (w : World) (g B : Nat) (vD0 vS0 : Value) (okb : Nat → Prop) (R : HSt × List (List Int × List Int)) (v9 : Value) (wr : World) (a : Int) (A : Option Addr) (c : Nat) (rest : List Int) (s : HSt) (vD vS : Value) (outs : List (List Int × List Int)) : Prop where
  all : R = ((feed s (zipAt rest a)).1, outs ++ (feed s (zipAt rest a)).2)
  err : s.err = 0
  is : HandIs wr B g vD vS s
  out : Kd.N k37 37 wr w.heap.size (fun k => w.heap.size ≤ k ∧ ¬ ownOf g vD vS k) v9 (outs.map foundOf)
  kept : Kp w wr (ownOf g vD0 vS0)
  own : ∀ k, ownOf g vD vS k → ownOf g vD0 vS0 k ∨ w.heap.size ≤ k
  row : Kd.F (Kd.int .u8) w (fun k => okb k ∧ k < w.heap.size) A rest.length rest
  room : rest.length ≤ c
  byte : ∀ x ∈ rest, 0 ≤ x ∧ x ≤ 255
  low : 0 ≤ a
  high : a + rest.length ≤ 5000000000000
  few : s.data.length + rest.length ≤ 1000000
  num : outs.length + rest.length ≤ 1000000
theorem segL_piece (ps : List Int) (a : Int) (n : Nat) (hn : 0 < n) : segL (ps ++ upFrom a n) = segL (ps ++ upFrom a 1) := by
  unfold segL
  rw [segsOf_piece ps a n hn, segsOf_piece ps a 1 (by decide)]
theorem segL_new {ps : List Int} {a : Int} (h : lastOr none ps ≠ some (a - 1)) : segL (ps ++ upFrom a 1) = segL ps ++ [⟨(ps.length : Int), a⟩] := by
  unfold segL
  rw [segsOf_piece ps a 1 (by decide), if_neg h, List.map_append]
  rfl
theorem segL_old {ps : List Int} {a : Int} (h : lastOr none ps = some (a - 1)) : segL (ps ++ upFrom a 1) = segL ps := by
  unfold segL
  rw [segsOf_piece ps a 1 (by decide), if_pos h, List.append_nil]
theorem segL_len (ps : List Int) : (segL ps).length ≤ ps.length := by
  unfold segL
  rw [List.length_map]
  exact (segs_len ps).1
theorem seg_M {w : World} {base : Nat} {ok : Nat → Prop} (x y : Int) : k39.M w base ok ⟨x, y⟩ [.int .i64 x, .int .i64 y] := ⟨[.int .i64 x], [.int .i64 y], rfl, rfl, rfl⟩
theorem R_val {α : Type} {d : Kd α} {e base : Nat} {w : World} {ok : Nat → Prop} {v : Value} {xs : List α} (h : d.R e w base ok v xs) : ∃ A c, v = .slice A xs.length c ∧ xs.length ≤ c := by
  obtain ⟨A, c, e, hl, _⟩ := Kd.R_reads h
  exact ⟨A, c, e, hl⟩
theorem R_val3 {α : Type} {d : Kd α} {e base : Nat} {w : World} {ok : Nat → Prop} {v : Value} {xs : List α} (h : d.R e w base ok v xs) : ∃ A n c, v = .slice A n c := by
  obtain ⟨A, c, e, _⟩ := Kd.R_reads h
  exact ⟨A, _, c, e⟩
/-- What a call leaves, R being what the machine says. -/
def PutPost (w : World) (g B : Nat) (vD0 vS0 : Value) (R : HSt × List (List Int × List Int)) (e : Ending) (w' : World) : Prop := ∃ v vD vS, e = .returned (.tuple #[v, .int .i64 (if R.1.err = 0 then 0 else R.1.eat), .int .i64 R.1.err]) ∧
  HandIs w' B g vD vS R.1 ∧ Kd.N k37 37 w' w.heap.size (fun k => w.heap.size ≤ k ∧ ¬ ownOf g vD vS k) v (R.2.map foundOf) ∧ Kp w w' (ownOf g vD0 vS0) ∧ ∀ k, ownOf g vD vS k → ownOf g vD0 vS0 k ∨ w.heap.size ≤ k
/-- A part of the bytes, then what is left. -/
theorem feed_part (s : HSt) (rest : List Int) (a : Int) (nn : Nat) (hn : nn ≤ rest.length) : feed s (zipAt rest a) = ((feed (feed s (zipAt (rest.take nn) a)).1 (zipAt (rest.drop nn) (a + nn))).1, (feed s (zipAt (rest.take nn) a)).2 ++ (feed (feed s (zipAt (rest.take nn) a)).1 (zipAt (rest.drop nn) (a + nn))).2) := by
  conv => lhs; rw [← List.take_append_drop nn rest, zipAt_append, feed_append]
  rw [List.length_take, Nat.min_eq_left hn]
theorem PutAt.outKept {w : World} {g B : Nat} {vD0 vS0 : Value} {okb : Nat → Prop} {R : HSt × List (List Int × List Int)} {v9 : Value} {wr : World} {a : Int} {A : Option Addr} {c : Nat} {rest : List Int} {s : HSt} {vD vS : Value} {outs : List (List Int × List Int)} (h : PutAt w g B vD0 vS0 okb R v9 wr a A c rest s vD vS outs)
    {wr' : World} {vD' vS' : Value} (hk : Kp wr wr' (ownOf g vD vS)) (ho : ∀ k, ownOf g vD' vS' k → ownOf g vD vS k ∨ wr.heap.size ≤ k) : Kd.N k37 37 wr' w.heap.size (fun k => w.heap.size ≤ k ∧ ¬ ownOf g vD' vS' k) v9 (outs.map foundOf) :=
  Kd.N_mono (Kd.N_kept (Kd.N_bound h.out) hk.kept (fun k hk2 => hk2.1.2)) (fun k hk2 => ⟨hk2.1.1, fun h3 => by
    rcases ho k h3 with h4 | h4
    · exact hk2.1.2 h4
    · have := hk2.2; omega⟩)
theorem PutAt.rowKept {w : World} {g B : Nat} {vD0 vS0 : Value} {okb : Nat → Prop} {R : HSt × List (List Int × List Int)} {v9 : Value} {wr : World} {a : Int} {A : Option Addr} {c : Nat} {rest : List Int} {s : HSt} {vD vS : Value} {outs : List (List Int × List Int)} (h : PutAt w g B vD0 vS0 okb R v9 wr a A c rest s vD vS outs)
    (hap : ∀ k, okb k → ¬ ownOf g vD0 vS0 k) {wr' : World} (hk : Kp wr wr' (ownOf g vD vS)) : Kd.F (Kd.int .u8) wr' (fun k => okb k ∧ k < w.heap.size) A rest.length rest :=
  Kd.F_kept h.row (h.kept.then_ hk h.own).kept (fun k hk2 h3 => hap k hk2.1 h3)
theorem PutAt.own2 {w : World} {g B : Nat} {vD0 vS0 : Value} {okb : Nat → Prop} {R : HSt × List (List Int × List Int)} {v9 : Value} {wr : World} {a : Int} {A : Option Addr} {c : Nat} {rest : List Int} {s : HSt} {vD vS : Value} {outs : List (List Int × List Int)} (h : PutAt w g B vD0 vS0 okb R v9 wr a A c rest s vD vS outs)
    {vD' vS' : Value} (ho : ∀ k, ownOf g vD' vS' k → ownOf g vD vS k ∨ wr.heap.size ≤ k) : ∀ k, ownOf g vD' vS' k → ownOf g vD0 vS0 k ∨ w.heap.size ≤ k := fun k hk => by
  rcases ho k hk with h3 | h3
  · exact h.own k h3
  · exact .inr (Nat.le_trans h.kept.1 h3)
/-- A round that goes on. -/
theorem PutAt.next {w : World} {g B : Nat} {vD0 vS0 : Value} {okb : Nat → Prop} {R : HSt × List (List Int × List Int)} {v9 : Value} {wr : World} {a : Int} {A : Option Addr} {c : Nat} {rest : List Int} {s : HSt} {vD vS : Value} {outs : List (List Int × List Int)} (h : PutAt w g B vD0 vS0 okb R v9 wr a A c rest s vD vS outs)
    {nn : Nat} (hn : nn ≤ rest.length) {s1 : HSt} {o1 : List (List Int × List Int)} (hf : feed s (zipAt (rest.take nn) a) = (s1, o1)) (he : s1.err = 0) {wr' : World} {vD' vS' v9' : Value} (hi : HandIs wr' B g vD' vS' s1) (hk : Kp w wr' (ownOf g vD0 vS0)) (ho : ∀ k, ownOf g vD' vS' k → ownOf g vD0 vS0 k ∨ w.heap.size ≤ k)
    (hout : Kd.N k37 37 wr' w.heap.size (fun k => w.heap.size ≤ k ∧ ¬ ownOf g vD' vS' k) v9' ((outs ++ o1).map foundOf)) (hd : s1.data.length ≤ s.data.length + nn) (hq : o1.length ≤ nn) :
    PutAt w g B vD0 vS0 okb R v9' wr' (a + nn) (if c = nn then A else A.map (·.add (nn * 1))) (c - nn) (rest.drop nn) s1 vD' vS' (outs ++ o1) := by
  have hl : (rest.drop nn).length = rest.length - nn := List.length_drop
  refine ⟨?_, he, hi, hout, hk, ho, ?_, by rw [hl]; have := h.room; omega, fun x hx => h.byte x (List.mem_of_mem_drop hx), by have := h.low; omega, by rw [hl]; have := h.high; omega, by rw [hl]; have := h.few; omega, by rw [hl, List.length_append]; have := h.num; omega⟩
  · rw [h.all, feed_part s rest a nn hn, hf, List.append_assoc]
  · exact Kd.F_cut (c := c) h.row hn h.room
/-- A round that ends all: something is wrong. -/
theorem PutAt.stop {w : World} {g B : Nat} {vD0 vS0 : Value} {okb : Nat → Prop} {R : HSt × List (List Int × List Int)} {v9 : Value} {wr : World} {a : Int} {A : Option Addr} {c : Nat} {rest : List Int} {s : HSt} {vD vS : Value} {outs : List (List Int × List Int)} (h : PutAt w g B vD0 vS0 okb R v9 wr a A c rest s vD vS outs)
    {nn : Nat} (hn : nn ≤ rest.length) {s1 : HSt} (hf : feed s (zipAt (rest.take nn) a) = (s1, [])) (he : s1.err ≠ 0) : R = (s1, outs) := by
  rw [h.all, feed_part s rest a nn hn, hf]
  simp only [feed_err he, List.append_nil]
theorem R_valn {α : Type} {d : Kd α} {e base n : Nat} {w : World} {ok : Nat → Prop} {v : Value} {xs : List α} (h : d.R e w base ok v xs) (hn : xs.length = n) : ∃ A c, v = .slice A n c ∧ n ≤ c := by
  obtain ⟨A, c, e, hl, _⟩ := Kd.R_reads h
  subst hn
  exact ⟨A, c, e, hl⟩
theorem ret_err {v : Value} {pl er : Int} (h : er ≠ 0) : Ending.returned (.tuple #[v, .int .i64 pl, .int .i64 er]) = .returned (.tuple #[v, .int .i64 (if er = 0 then 0 else pl), .int .i64 er]) := by rw [if_neg h]
theorem places_far {ps : List Int} {a : Int} {n : Nat} (h : ∀ p ∈ ps, 0 ≤ p ∧ p ≤ 5000000000000) (ha : 0 ≤ a) (ha2 : a + n ≤ 5000000000000) : ∀ p ∈ ps ++ upFrom a n, 0 ≤ p ∧ p ≤ 5000000000000 := by
  intro p hp
  rcases List.mem_append.1 hp with hp | hp
  · exact h p hp
  · have : ∀ (n : Nat) (a : Int), 0 ≤ a → a + n ≤ 5000000000000 → ∀ p ∈ upFrom a n, 0 ≤ p ∧ p ≤ 5000000000000 := by
      intro n
      induction n with
      | zero => intro a _ _ p hp; cases hp
      | succ n ih =>
        intro a h1 h2 p hp
        rcases List.mem_cons.1 hp with rfl | hp
        · omega
        · exact ih (a + 1) (by omega) (by omega) p hp
    exact this n a ha ha2 p hp
/-- What the hand says behind bytes that made nothing whole. -/
theorem fits_more {s : HSt} {need next a : Int} {rest : List Int} {nn : Nat} (hF : s.Fits need next) (he : s.err = 0) (hn : nn ≤ rest.length) (h0 : 0 < nn) (hb : ∀ x ∈ rest, 0 ≤ x ∧ x ≤ 255) (ha : 0 ≤ a) (ha2 : a + nn ≤ 5000000000000) {need' : Int}
    (hneed : 4 ≤ (s.data ++ rest.take nn).length → need' = needOf (s.data ++ rest.take nn) ∧ ((s.data ++ rest.take nn).length : Int) < needOf (s.data ++ rest.take nn)) :
    HSt.Fits { s with data := s.data ++ rest.take nn, places := s.places ++ upFrom a nn } need' (a + nn) := by
  have hlen : (rest.take nn).length = nn := by rw [List.length_take]; omega
  refine ⟨?_, hneed, fun _ => ?_, fun e => absurd he e, fun c hc => ?_, fun p hp => ?_⟩
  · simp only [List.length_append, upFrom_length, hlen, hF.len]
  · obtain ⟨m, rfl⟩ : ∃ m, nn = m + 1 := ⟨nn - 1, by omega⟩
    show lastOr none (s.places ++ upFrom a (m + 1)) = _
    rw [upFrom_snoc, ← List.append_assoc, lastOr_snoc]
    congr 1
    omega
  · rcases List.mem_append.1 hc with hc | hc
    · exact hF.byte c hc
    · exact hb c (List.mem_of_mem_take hc)
  · rcases List.mem_append.1 hp with hp | hp
    · exact hF.far p hp
    · have : ∀ (n : Nat) (a : Int), 0 ≤ a → a + n ≤ 5000000000000 → ∀ p ∈ upFrom a n, 0 ≤ p ∧ p ≤ 5000000000000 := by
        intro n
        induction n with
        | zero => intro a _ _ p hp; cases hp
        | succ n ih =>
          intro a h1 h2 p hp
          rcases List.mem_cons.1 hp with rfl | hp
          · omega
          · exact ih (a + 1) (by omega) (by omega) p hp
      exact this nn a ha ha2 p hp
theorem fits_none {s : HSt} {need next next' : Int} (hF : s.Fits need next) (need' eat err : Int) (most : Int) : HSt.Fits ⟨most, [], [], err, eat⟩ need' next' :=
  ⟨rfl, fun h => absurd h (by simp), fun h => absurd rfl h, fun _ => rfl, (fun _ h => by cases h), (fun _ h => by cases h)⟩
theorem byte_at {d : List Int} (h : ∀ c ∈ d, 0 ≤ c ∧ c ≤ 255) (i : Nat) : 0 ≤ d.getD i 0 ∧ d.getD i 0 ≤ 255 := by
  rw [List.getD_eq_getElem?_getD]
  cases hd : d[i]? with
  | none => exact ⟨by decide, by decide⟩
  | some x => exact h x (List.mem_of_getElem? hd)
theorem need_le {d : List Int} (h : ∀ c ∈ d, 0 ≤ c ∧ c ≤ 255) : 4 ≤ needOf d ∧ needOf d ≤ 16777219 := by
  have h1 := byte_at h 1
  have h2 := byte_at h 2
  have h3 := byte_at h 3
  unfold needOf
  omega
theorem placeS_segL (ps : List Int) (i : Int) : placeS (segL ps) i = placeSegs (segsOf ps) i := by
  unfold placeS placeSegs segL
  rw [← List.map_reverse, List.find?_map]
  cases h : List.find? ((fun s : S39 => decide (s.f0 ≤ i)) ∘ fun x => ⟨x.1, x.2⟩) (segsOf ps).reverse with
  | none =>
    have h2 : List.find? (fun s => decide (s.1 ≤ i)) (segsOf ps).reverse = none := h
    rw [h2]
    rfl
  | some x =>
    have h2 : List.find? (fun s => decide (s.1 ≤ i)) (segsOf ps).reverse = some x := h
    rw [h2]
    rfl
theorem segs_places (ps : List Int) : ∀ s ∈ segsOf ps, s.2 ∈ ps := by
  induction ps using snoc_ind with
  | h0 => intro s hs; cases hs
  | h1 ps p ih =>
    intro s hs
    rw [segsOf_snoc] at hs
    rcases List.mem_append.1 hs with hs | hs
    · exact List.mem_append.2 (.inl (ih s hs))
    · split at hs
      · cases hs
      · obtain rfl := List.mem_singleton.1 hs
        exact List.mem_append.2 (.inr (List.mem_singleton.2 rfl))
theorem segL_ok {ps : List Int} (h : ∀ p ∈ ps, 0 ≤ p ∧ p ≤ 5000000000000) (hl : ps.length ≤ 1000000) : segsOk (segL ps) := by
  intro s hs
  obtain ⟨x, hx, rfl⟩ := List.mem_map.1 hs
  have h1 := (segs_len ps).2 x hx
  have h2 := h _ (segs_places ps x hx)
  show 0 ≤ x.1 ∧ x.1 ≤ 1000000 ∧ 0 ≤ x.2 ∧ x.2 ≤ 10000000000000
  omega
theorem segL_ne {ps : List Int} (h : ps ≠ []) : segL ps ≠ [] := by
  obtain ⟨x, r, rfl⟩ := List.exists_cons_of_ne_nil h
  unfold segL segsOf segsFrom
  simp
theorem place_first {ps : List Int} (h : ps ≠ []) (n : Nat) : handPlace n (segL ps) 0 = ps.getD 0 0 := by
  unfold handPlace
  rw [if_pos (Int.le_refl 0), placeS_segL]
  exact segs_at ps 0 (List.length_pos_iff.2 h)
theorem quiet_part {s : HSt} {rest : List Int} {a : Int} {nn : Nat} (hn : nn ≤ rest.length) (he : s.err = 0) (hq : s.data.length + nn < 4 ∨ (4 ≤ s.data.length ∧ ((s.data.length + nn : Nat) : Int) < needOf s.data)) :
    feed s (zipAt (rest.take nn) a) = ({ s with data := s.data ++ rest.take nn, places := s.places ++ upFrom a nn }, []) := by
  have hl : (rest.take nn).length = nn := by rw [List.length_take]; omega
  rw [feed_quiet _ _ _ he (by rw [hl]; exact hq), hl]
theorem take_ne {rest : List Int} {nn : Nat} (hn : nn ≤ rest.length) (h0 : 0 < nn) : rest.take nn ≠ [] := fun e => by
  have := congrArg List.length e
  rw [List.length_take, List.length_nil] at this
  omega
theorem head_part {s : HSt} {rest : List Int} {a : Int} {nn : Nat} (hn : nn ≤ rest.length) (h0 : 0 < nn) (he : s.err = 0) (h4 : s.data.length + nn = 4) :
    feed s (zipAt (rest.take nn) a) = (if headErr s.most (s.data ++ rest.take nn) = 0 then (if needOf (s.data ++ rest.take nn) = 4 then ({ s with data := [], places := [] }, [(s.data ++ rest.take nn, s.places ++ upFrom a nn)])
      else ({ s with data := s.data ++ rest.take nn, places := s.places ++ upFrom a nn }, [])) else ({ s with data := [], places := [], err := headErr s.most (s.data ++ rest.take nn), eat := (s.places ++ upFrom a nn).getD 0 0 }, [])) := by
  have hl : (rest.take nn).length = nn := by rw [List.length_take]; omega
  rw [feed_head he (take_ne hn h0) (by rw [hl]; exact h4), hl]
  unfold headErr
  by_cases k : msgKnown ((s.data ++ rest.take nn).getD 0 0) = false
  · rw [if_pos k, if_pos k, if_neg (by decide)]
  · rw [if_neg k, if_neg k]
    by_cases m : s.most < needOf (s.data ++ rest.take nn)
    · rw [if_pos m, if_pos m, if_neg (by decide)]
    · rw [if_neg m, if_neg m, if_pos rfl]
theorem body_part {s : HSt} {rest : List Int} {a : Int} {nn : Nat} (hn : nn ≤ rest.length) (h0 : 0 < nn) (he : s.err = 0) (h4 : 4 ≤ s.data.length) (hq : ((s.data.length + nn : Nat) : Int) = needOf s.data) :
    feed s (zipAt (rest.take nn) a) = ({ s with data := [], places := [] }, [(s.data ++ rest.take nn, s.places ++ upFrom a nn)]) := by
  have hl : (rest.take nn).length = nn := by rw [List.length_take]; omega
  rw [feed_body he (take_ne hn h0) h4 (by rw [hl]; exact hq), hl]
theorem HandRaw.headed {W w1 : World} {B g : Nat} {vD vS : Value} {d : List Int} {l : List S39} {most need next eat err need' : Int} (h : HandRaw W B g vD vS d l most need next eat err)
    (hX : w1.heap[g]? = some (.cells #[.int .i64 most, vD, vS, .int .i64 need', .int .i64 next, .int .i64 eat, .int .i64 err] 57 (0, 0))) (hK : Kp W w1 (fun k => k = g)) : HandRaw w1 B g vD vS d l most need' next eat err :=
  ⟨hX, Kd.R_kept h.dat hK.kept (fun k hk e => h.dg (by rw [← e]; exact hk)), Kd.R_kept h.seg hK.kept (fun k hk e => h.sg (by rw [← e]; exact hk)), h.low⟩
theorem found_FK {W : World} {z b1 b2 : Nat} {AA AB : Option Addr} {dl ns cA cB : Nat} {dd pp : List Int} (h1 : (Kd.int .u8).R 5 W b1 (fun k => z ≤ k) (.slice AA dl cA) dd) (h2 : Kd.R k39 39 W b2 (fun k => z ≤ k) (.slice AB ns cB) (segL pp)) :
    Kd.FK k37 W (fun k => z ≤ k) (foundOf (dd, pp)) [.slice AA dl cA, .slice AB ns cB] := by
  obtain ⟨e1, l1, -⟩ := Kd.R_reads' h1
  obtain ⟨e2, l2, -⟩ := Kd.R_reads' h2
  have f1 := Kd.R_F h1
  have f2 := Kd.R_F h2
  subst e1
  subst e2
  exact k37_mkF W (fun k => z ≤ k) (foundOf (dd, pp)) l1 f1 l2 f2
theorem foundInfo : (Try.prog.info? 37).map (fun i => (i.zero, i.size, i.bytes)) = some (some (.agg #[.slice none 0 0, .slice none 0 0]), 2, 48) := by kernel_rfl
end Go.Proofs.Ytmdmllfbdpoeeaa
