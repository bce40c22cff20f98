/- The law HandJoins returns true: short messages of any bodies, one behind the other, in one piece, are found as they are, each where it stood; the number is an int's. -/
import Derived.Test.YtmdmllfbdpoeeaaHHandG
import Derived.Test.YtmdmllfbdpoeeaaHHandJoinsP
import Derived.Test.YtmdmllfbdpoeeaaHHandWhole
import Derived.Test.YtmdmllfbdpoeeaaHRefH
namespace Go.Proofs.Ytmdmllfbdpoeeaa
open Go Go.RowKit Go.Maps Go.Proofs.Hand Go.Proofs.YtmdmllfbdpoeeaaW.PrintWords Go.Proofs.YtmdmllfbdpoeeaaW.PrintLast Go.Proofs.YtmdmllfbdpoeeaaW.PrintMore
set_option maxRecDepth 100000
set_option linter.unusedVariables false
set_option linter.unusedSimpArgs false

def HandJoins.T25 : Bool × List (List Nat × List Nat) := (true, [([], []), ([0], [0]), ([1], [1]), ([], []), ([], []), ([], []), ([4, 5], [4, 5]), ([6], [6]), ([], []), ([3, 7, 8], [3, 7, 8]), ([9], [9]), ([2, 10], [2, 10]), ([11], [11]), ([12], [12]), ([13, 12, 12], [12, 13]), ([12], [12]), ([12], [12]), ([12], [12]), ([16, 17, 12], [12, 16, 17]), ([18, 12], [12, 18]), ([15, 19, 12], [12, 15, 19]), ([14, 20, 12], [12, 14, 20]), ([12, 21], [12, 21]), ([22, 14], [22]), ([23], [23]), ([23], [23]), ([25, 23], [23, 25]), ([26, 23], [23, 26]), ([24, 27, 23, 23], [23, 24, 27]), ([23], [23]), ([23], [23]), ([29, 30, 23], [23, 29, 30]), ([28, 31, 23], [23, 28, 31]), ([23, 32], [23, 32])])
def HandJoins.B25 : List Nat := [0, 1, 3, 0, 0, 0, 48, 112, 0, 504, 1016, 2047, 4095, 8191, 16383, 8191, 8191, 8191, 204799, 466943, 1023999, 2097151, 4194303, 8388607, 16777215, 16777215, 50331647, 117440511, 268435455, 16777215, 16777215, 1627389951, 4294967295, 8589934591]
theorem HandJoins.tab25 : rtab .any (opsOf Try.f8 25) = HandJoins.T25 := by kernel_rfl
theorem HandJoins.bits25 : waitsOk HandJoins.T25.2 HandJoins.B25 = true := by kernel_rfl
def fromsOf (bs : List (List Int)) (j : Nat) : List Int := (List.range j).map (fun i => ((frames (bs.take i)).length : Int))
theorem place_in17 (a : Int) (h : (Lit.int .i64 a).wf = true) : ∃ r : Int, passepartoutlaw17_place.f a = some r ∧ 0 ≤ r ∧ r < 1099511627776 := by
  refine ⟨_, rfl, ?_⟩
  have h1 : 0 ≤ IntKind.u64.wrap a := by simp [IntKind.wrap, IntKind.signed, IntKind.bits]; omega
  have h2 : Int.tmod (IntKind.u64.wrap a) 1099511627776 = IntKind.u64.wrap a % 1099511627776 := Int.tmod_eq_emod_of_nonneg h1
  rw [h2]
  have h3 : 0 ≤ IntKind.u64.wrap a % 1099511627776 ∧ IntKind.u64.wrap a % 1099511627776 < 1099511627776 := by omega
  generalize IntKind.u64.wrap a % 1099511627776 = z at h3
  unfold wrap64
  omega
theorem intInfo : (Try.prog.info? 3).map (fun i => (i.zero, i.size, i.bytes)) = some (some (.int .i64 0), 1, 8) := by kernel_rfl
theorem lit_cell (l : List Int) (j : Nat) (x : Int) (hj : l[j]? = some x) : (l.map (Value.int .u8)).toArray[j]? = some (.int .u8 x) := by simp [hj]
structure TwoRows (w wr : World) (B g : Nat) (s : HSt) (v8 v9 : Value) (xs ys : List Int) : Prop where
  all : (Kd.int .u8).R 5 wr B (fun k => some k = v8.ownBlock) v8 xs
  «from» : (Kd.int .i64).R 3 wr B (fun k => some k = v9.ownBlock) v9 ys
  is : HandIs wr B g (.slice none 0 0) (.slice none 0 0) s
  low : Below B w wr
theorem HandIs.grown {W w1 : World} {B g : Nat} {s : HSt} {v : Value} (h : HandIs W B g (.slice none 0 0) (.slice none 0 0) s) (hg : W.grownBy w1 v.ownBlock) (hne : some g ≠ v.ownBlock) : HandIs w1 B g (.slice none 0 0) (.slice none 0 0) s :=
  h.keep (fun k hk hlt => by
    rcases hk with rfl | hk | hk
    · exact hg.block _ hlt hne
    · simp [Value.ownBlock] at hk
    · simp [Value.ownBlock] at hk)
theorem HandIs.ne {W : World} {B g : Nat} {s : HSt} {v vD vS : Value} {α : Type} {d : Kd α} {e base : Nat} {ok : Nat → Prop} {xs : List α} (h : HandIs W B g vD vS s) (hr : d.R e W base ok v xs) (he : e ≠ 57) : some g ≠ v.ownBlock := by
  obtain ⟨need, next, hr2, _⟩ := h
  exact Kd.R_ne hr hr2.blk he
theorem TwoRows.put9 {w wr w1 : World} {B g : Nat} {s : HSt} {v8 v9 v1 : Value} {xs ys ys1 : List Int} {ok : Nat → Prop} (h : TwoRows w wr B g s v8 v9 xs ys) (hr : (Kd.int .i64).R 3 w1 B ok v1 ys1) (hb : Below B w w1) (hg : wr.grownBy w1 v9.ownBlock) : TwoRows w w1 B g s v8 v1 xs ys1 :=
  ⟨Kd.R_grown h.all hg (fun k hk e => by
    obtain ⟨cells, hc⟩ := Kd.R_typed h.from k e.symm
    exact Kd.R_ne h.all hc (by decide) hk), Kd.R_tight rfl hr, h.is.grown hg (h.is.ne h.from (by decide)), hb⟩
theorem TwoRows.put8 {w wr w1 : World} {B g : Nat} {s : HSt} {v8 v9 v1 : Value} {xs xs1 ys : List Int} {ok : Nat → Prop} (h : TwoRows w wr B g s v8 v9 xs ys) (hr : (Kd.int .u8).R 5 w1 B ok v1 xs1) (hb : Below B w w1) (hg : wr.grownBy w1 v8.ownBlock) : TwoRows w w1 B g s v1 v9 xs1 ys :=
  ⟨Kd.R_tight rfl hr, Kd.R_grown h.from hg (fun k hk e => by
    obtain ⟨cells, hc⟩ := Kd.R_typed h.all k e.symm
    exact Kd.R_ne h.from hc (by decide) hk), h.is.grown hg (h.is.ne h.all (by decide)), hb⟩
theorem TwoRows.below {w wr w1 : World} {B g : Nat} {s : HSt} {v8 v9 : Value} {xs ys : List Int} (h : TwoRows w wr B g s v8 v9 xs ys) (hb : Below wr.heap.size wr w1) : TwoRows w w1 B g s v8 v9 xs ys :=
  ⟨Kd.R_below h.all hb, Kd.R_below h.from hb, h.is.keep (fun k _ hlt => hb.block k hlt), h.low.trans (hb.mono (Nat.le_of_lt (Nat.lt_of_le_of_lt (h.is.lowAll (.inl rfl)) (h.is.lt (.inl rfl)))))⟩
set_option maxHeartbeats 4000000 in
theorem HandJoins_walk (A0 : Option Addr) (c0 : Nat) (l0 : List (List Int)) (a1 : Int) (w : World) (hC : Kd.C (Kd.slice 5 (Kd.int .u8)) w A0 l0.length l0) (hc : l0.length ≤ c0) (hw : ∀ x ∈ l0, ∀ n ∈ x, (Lit.int .u8 n).wf = true) (w1 : (Lit.int .i64 a1).wf = true) :
    Calls Try.prog 8 #[.slice A0 l0.length c0, .int .i64 a1] w fun e w' => e = .returned (.bool true) ∧ Below w.heap.size w w' := by
  have hby : ∀ b ∈ l0, ∀ x ∈ b, 0 ≤ x ∧ x ≤ 255 := fun b hb x hx => bounds_u8 (hw b hb x hx)
  obtain ⟨pl, hpl, pl0, pl1⟩ := place_in17 a1 w1
  replace hpl := Aside0.mk hpl
  clear hw w1
  replace hC := Aside0.mk hC
  by_cases g1 : 60 < l0.length
  · have k1 : decide ((60 : Int) < (l0.length : Int)) = true := decide_eq_true (by omega)
    go_enter Try.func8, Try.ntmps8
    go_wp2_with fail
    refine (alive_walk _).mono ?_
    rintro e w1 ⟨rfl, hb1⟩
    go_wp2_with fail
    refine (alive_walk _).mono ?_
    rintro e w2 ⟨rfl, hb2⟩
    go_wp2
    go_ret
    exact ⟨rfl, hb1.trans (hb2.mono hb1.size)⟩
  have k1 : decide ((60 : Int) < (l0.length : Int)) = false := decide_eq_false (by omega)
  go_enter Try.func8, Try.ntmps8
  go_wp2_with fail
  refine (alive_walk _).mono ?_
  rintro e w1 ⟨rfl, hb1⟩
  replace hb1 := Aside0.mk hb1
  go_wp2_with fail
  refine (New_ok 3000 _ (by decide) (by decide)).mono ?_
  rintro e w3 ⟨rfl, hw3⟩
  have hI3 := New_is 3000 w1 w.heap.size hb1.out.size
  have hb3 := hb1.out.alloc hb1.out.size (.cells #[.int .i64 3000, .slice none 0 0, .slice none 0 0, .int .i64 0, .int .i64 0, .int .i64 0, .int .i64 0] 57)
  rw [hw3] at hI3 hb3
  clear hw3 hb1
  replace hI3 := Aside0.mk hI3
  replace hb3 := Aside0.mk hb3
  go_wp2_with fail
  refine (passepartoutlaw17_place.calls a1 pl _ hpl.out).mono ?_
  rintro e w4 ⟨rfl, hd4⟩
  have hB4 := Aside0.mk (hb3.out.trans (hd4.below.mono hb3.out.size))
  have hT4 : TwoRows w w4 w.heap.size w1.heap.size hand3 (.slice none 0 0) (.slice none 0 0) [] [] := ⟨Kd.R_nil _ _ _ _ _, Kd.R_nil _ _ _ _ _, hI3.out.keep (W' := w4) (fun k _ hlt => hd4.below.block k hlt), hB4.out⟩
  replace hT4 := Aside0.mk hT4
  clear hI3 hb3 hd4 hB4
  obtain ⟨bs, hbs⟩ : ∃ bs : List (List Int), bs = l0.map (·.take 255) := ⟨_, rfl⟩
  replace hbs := Aside0.mk hbs
  go_wp2_with fail
  go_loopw [8, 9, 40] (fun v8 v9 v40 wr => ∃ j : Nat, v40 = .int .i64 (j : Int) ∧ j ≤ l0.length ∧ TwoRows w wr w.heap.size w1.heap.size hand3 v8 v9 (frames (bs.take j)) (fromsOf bs j))
    (fun _ _ v40 _ => (l0.length : Int).toNat - (intOf v40).toNat)
  case atStart => exact ⟨0, rfl, Nat.zero_le _, hT4.out⟩
  case round =>
    obtain ⟨j, rfl, hj, hT⟩ := hrel
    obtain ⟨A8, c8, rfl, hc8⟩ := R_val hT.all
    obtain ⟨A9, c9, rfl, hc9⟩ := R_val hT.from
    replace hT := Aside0.mk hT
    by_cases hjl : j < l0.length
    · have k2 : decide ((j : Int) < (l0.length : Int)) = true := decide_eq_true (by omega)
      obtain ⟨ad, A2, c2, rfl, z0, hc2, hC2⟩ := at_L1 hC.out (j : Int) (by omega) (by omega)
      obtain ⟨x, hxj⟩ : ∃ x, l0[j]? = some x := ⟨_, List.getElem?_eq_getElem hjl⟩
      have hrd : rd_L1 l0 (j : Int) = x := by simp [rd_L1, hxj]
      simp only [hrd, Int.toNat_natCast] at z0 hc2 hC2
      replace z0 := (hT.out.low.cell (World.block_lt_of_cell? w _ z0)).trans z0
      replace hC2 := Aside0.mk hC2
      clear hrd
      obtain ⟨y, hy⟩ : ∃ y, x.take 255 = y := ⟨_, rfl⟩
      have hyl : y.length ≤ 255 := by rw [← hy, List.length_take]; omega
      have hmn : (min (x.length : Int) 255).toNat = y.length := by rw [← hy, List.length_take]; omega
      have hyc : y.length ≤ x.length := by rw [← hy, List.length_take]; omega
      have hyj : bs[j]? = some y := by rw [hbs.out, List.getElem?_map, hxj, ← hy]; rfl
      have hfl : (frames (bs.take j)).length ≤ 20000 := by
        have h1 := frames_le (bs.take j) (fun b hb => by
          rw [hbs.out] at hb
          obtain ⟨z, hz, rfl⟩ := List.mem_map.1 (List.mem_of_mem_take hb)
          rw [List.length_take]; omega)
        rw [List.length_take] at h1
        omega
      have hfn : (fromsOf bs j).length = j := by simp [fromsOf]
      have hft : fromsOf bs (j + 1) = fromsOf bs j ++ [((frames (bs.take j)).length : Int)] := by unfold fromsOf; rw [List.range_succ, List.map_append]; rfl
      have hfb := frames_take bs j y hyj
      have hCy := C_take hC2.out hyc
      rw [← hmn] at hyl
      have hwu : IntKind.u8.wrap (y.length : Int) = (y.length : Int) := by simp [IntKind.wrap, IntKind.signed, IntKind.bits]; omega
      have hC3 : Kd.F (Kd.int .u8) w (fun k => k < w.heap.size) A2 y.length y := by
        have hty : x.take y.length = y := by rw [← hy, List.length_take]; first | exact (List.take_eq_take_min ..).symm | simp
        have := Kd.C_F (Kd.heap_int _) hCy
        rw [hty] at this
        exact this
      rw [hmn] at hyl
      have hB0 : w.heap.size ≤ wr.heap.size := hT.out.low.size
      replace hC3 := Aside0.mk hC3
      replace hft := Aside0.mk hft
      replace hfb := Aside0.mk hfb
      replace hfn := Aside0.mk hfn
      replace hyj := Aside0.mk hyj
      replace hxj := Aside0.mk hxj
      clear hC2 hCy hy
      go_upto_region 13 with (fail)
      clear hmn
      go_upto_region 14 with (first
        | ((with_reducible refine gate_builtin (b := .append) rfl ?_); refine Kd.R_append (Kd.int .i64) (w0 := w) w.heap.size rfl (.tmp 49) (.tmp 52) 23 3 (.int .i64 0) 8 rfl Try.underlying23 intInfo rfl (by decide) (by decide) (.slice A9 (fromsOf bs j).length c9) (fromsOf bs j) ((frames (bs.take j)).length : Int) [.int .i64 ((frames (bs.take j)).length : Int)] (fun _ => True) (fun _ => False) rfl rfl rfl (fun _ hk => hk.elim) (fun _ _ => trivial) (Kd.R_mono hT.out.from (fun _ _ => trivial)) hT.out.low hB0 (by have := hfn.out; omega) ?_; intro v5 w5 hR5 hb5 hg5 hat5))
      have hT5 := hT.out.put9 hR5 hb5 hg5
      rw [← hft.out] at hT5
      have hs5 : wr.heap.size ≤ w5.heap.size := hg5.size
      have hF6 : Kd.F (Kd.int .u8) (w5.alloc (.cells #[.int .u8 20, .int .u8 0, .int .u8 0, .int .u8 (y.length : Int)] 5)) (fun k => k = w5.heap.size) (some ⟨w5.heap.size, 0, none⟩) 4 [20, 0, 0, (y.length : Int)] :=
        lit_row [20, 0, 0, (y.length : Int)] (heap_at w5 (.cells ([20, 0, 0, (y.length : Int)].map (Value.int .u8)).toArray 5) w5.heap.size rfl) (by simp) (lit_cell _)
      have hC6 := hF6 _ (fun _ _ _ => rfl)
      have hT6 := hT5.below (w1 := w5.alloc (.cells #[.int .u8 20, .int .u8 0, .int .u8 0, .int .u8 (y.length : Int)] 5)) ((Below.refl w5.heap.size w5).alloc (Nat.le_refl _) _)
      have hs6 : w.heap.size ≤ (w5.alloc (.cells #[.int .u8 20, .int .u8 0, .int .u8 0, .int .u8 (y.length : Int)] 5)).heap.size := hT6.low.size
      replace hT6 := Aside0.mk hT6
      replace hC6 := Aside0.mk hC6
      clear hT5 hF6 hR5 hb5 hg5 hat5 hs5
      go_wp2_with (first
        | ((with_reducible refine gate_builtin (b := .append) rfl ?_); refine Kd.R_append_rows (Kd.int .u8) (Rr := (Kd.int .u8).K (w5.alloc (.cells #[.int .u8 20, .int .u8 0, .int .u8 0, .int .u8 (y.length : Int)] 5))) (w0 := w) w.heap.size rfl (.tmp 54) (.tmp 58) 22 5 (.int .u8 0) 1 rfl Try.underlying22 byteInfo rfl (by decide) (by decide) (.slice A8 (frames (bs.take j)).length c8) (frames (bs.take j)) [20, 0, 0, (y.length : Int)] (some ⟨w5.heap.size, 0, none⟩) 4 4 (fun _ => True) (fun _ => False) rfl rfl (Kd.R_mono hT6.out.all (fun _ _ => trivial)) hC6.out (fun _ _ h => h) (fun _ hk => hk.elim) (fun _ _ => trivial) hT6.out.low hs6 (by omega) ?_; intro v6 w6 hR6 hb6 hg6 hat6; replace hR6 := Aside0.mk hR6; replace hb6 := Aside0.mk hb6; replace hg6 := Aside0.mk hg6; clear hat6)
        | ((with_reducible refine gate_builtin (b := .append) rfl ?_); refine Kd.R_append_rows (Kd.int .u8) (Rr := (Kd.int .u8).K w6) (w0 := w) w.heap.size rfl (.tmp 59) (.tmp 60) 22 5 (.int .u8 0) 1 rfl Try.underlying22 byteInfo rfl (by decide) (by decide) v6 (frames (bs.take j) ++ [20, 0, 0, (y.length : Int)]) y A2 y.length c2 (fun _ => True) (fun _ => False) rfl rfl hR6.out (hC3.out w6 (fun k hk _ => hb6.out.block k hk)) (fun _ _ h => h) (fun _ hk => hk.elim) (fun _ _ => trivial) hb6.out hb6.out.size (by rw [List.length_append]; simp only [List.length_cons, List.length_nil]; omega) ?_; intro v7 w7 hR7 hb7 hg7 hat7; replace hR7 := Aside0.mk hR7; replace hb7 := Aside0.mk hb7; replace hg7 := Aside0.mk hg7; clear hat7))
      have hT7 := (hT6.out.put8 hR6.out hb6.out hg6.out).put8 hR7.out hb7.out hg7.out
      rw [List.append_assoc, show [20, 0, 0, (y.length : Int)] ++ y = frame y from rfl, ← hfb.out] at hT7
      go_roundw
      case rel => exact ⟨j + 1, rfl, by omega, hT7⟩
      case measure => simp [intOf]; omega
    · have k2 : decide ((j : Int) < (l0.length : Int)) = false := decide_eq_false (by omega)
      obtain rfl : j = l0.length := by omega
      have hbl : bs.length = l0.length := by rw [hbs.out, List.length_map]
      rw [← hbl] at hT
      rw [List.take_length, hbl] at hT
      rw [show bs.take l0.length = bs by rw [← hbl, List.take_length]] at hc8 ⊢
      have h255 : ∀ b ∈ bs, b.length ≤ 255 := fun b hb => by
        rw [hbs.out] at hb
        obtain ⟨z, hz, rfl⟩ := List.mem_map.1 hb
        rw [List.length_take]; omega
      have hbyte := frames_byte bs h255 (fun b hb x hx => by
        rw [hbs.out] at hb
        obtain ⟨z, hz, rfl⟩ := List.mem_map.1 hb
        exact hby z hz x (List.mem_of_mem_take hx))
      have hfl : (frames bs).length ≤ 20000 := by
        have := frames_le bs h255
        omega
      have hol := outsOf_length bs pl
      rw [hbl] at hol
      have hfn : (fromsOf bs l0.length).length = l0.length := by simp [fromsOf]
      have hown : ∀ k, ownOf w1.heap.size (.slice none 0 0) (.slice none 0 0) k → k = w1.heap.size := fun k hk => by
        rcases hk with rfl | hk | hk
        · rfl
        · simp [Value.ownBlock] at hk
        · simp [Value.ownBlock] at hk
      have hF8 : Kd.F (Kd.int .u8) wr (fun k => some k = (Value.slice A8 (frames bs).length c8).ownBlock) A8 (frames bs).length (frames bs) := fun W' hW => (Kd.R_reads' (Kd.R_step hT.out.all (fun k hk hlt => hW k hk hlt))).2.2
      have hput := Put_law w w1.heap.size w.heap.size _ _ hand3 pl A8 c8 (frames bs) _ wr hT.out.is hT.out.low hF8 (by have := (Kd.R_reads' hT.out.all).2.1; exact this) (fun k hk h => hT.out.is.ne hT.out.all (by decide) (by rw [← hown k h]; exact hk)) hbyte pl0 (by omega) (by show 0 + (frames bs).length ≤ _; omega)
      rw [feed_frames bs pl h255] at hput
      obtain ⟨outs, houts⟩ : ∃ o, outsOf bs pl = o := ⟨_, rfl⟩
      rw [houts] at hput hol
      replace houts := Aside0.mk houts
      replace hput := Aside0.mk hput
      replace hbyte := Aside0.mk hbyte
      clear hF8
      go_wp2_with fail
      refine hput.out.mono ?_
      rintro e w5 ⟨A7, c7, vD, vS, _, _, rfl, ⟨rfl⟩, ⟨rfl⟩, hc7, hI5, hN5, hb5, hk5, -⟩
      have hR8 := Kd.R_step hT.out.all (w1 := w5) (fun k hk hlt => hk5.blk k hlt (fun h => hT.out.is.ne hT.out.all (by decide) (by rw [← hown k h]; exact hk)))
      have hR9 := Kd.R_step hT.out.from (w1 := w5) (fun k hk hlt => hk5.blk k hlt (fun h => hT.out.is.ne hT.out.from (by decide) (by rw [← hown k h]; exact hk)))
      have hC8 := Aside0.mk (Kd.R_reads' hR8).2.2
      have hC9 := Aside0.mk (Kd.R_reads' hR9).2.2
      have hC7 : Kd.C k37 w5 A7 l0.length (outs.map foundOf) := by have := (Kd.N_reads' hN5).2.2; rwa [List.length_map, hol] at this
      replace hC7 := Aside0.mk hC7
      replace hI5 := Aside0.mk hI5
      replace hb5 := Aside0.mk hb5
      simp only [hol] at hc7 ⊢
      clear hput hR8 hR9 hN5 hk5
      rw [hfn] at hC9
      go_wp2_with fail
      refine (Partial_calls _ hI5.out).mono ?_
      rintro e w6 ⟨rfl, rfl⟩
      clear hI5 hT hT4 hC hown
      go_wp2_with fail
      go_loopw [86] (fun v86 wr => ∃ j : Nat, v86 = .int .i64 (j : Int) ∧ j ≤ l0.length ∧ Below w.heap.size w wr ∧ Below w5.heap.size w5 wr)
        (fun v86 _ => (l0.length : Int).toNat - (intOf v86).toNat)
      case atStart => exact ⟨0, rfl, Nat.zero_le _, hb5.out, Below.refl _ _⟩
      case round =>
        obtain ⟨j, rfl, hj2, hbw, hbr⟩ := hrel
        replace hbw := Aside0.mk hbw
        replace hbr := Aside0.mk hbr
        by_cases hjl2 : j < l0.length
        · have k5 : decide ((j : Int) < (l0.length : Int)) = true := decide_eq_true (by omega)
          obtain ⟨y, hyj⟩ : ∃ y, bs[j]? = some y := ⟨_, List.getElem?_eq_getElem (by omega)⟩
          have ho := outsOf_get bs pl j y hyj
          rw [houts.out] at ho
          obtain ⟨ad, A5, c5, A6, c6, rfl, z0, z1, hc5, hC5, hc6, hC6⟩ := at_T37 (Kd.C_below hC7.out hbr.out) (j : Int) (by omega) (by omega)
          have hrd : rd_T37 (outs.map foundOf) (j : Int) = foundOf (frame y, upFrom (pl + (frames (bs.take j)).length) (frame y).length) := by simp [rd_T37, ho]
          have hdl0 : 0 < (frame y).length := by rw [frame_len]; omega
          simp only [hrd, foundOf, Int.toNat_natCast, segL_up _ _ hdl0, List.length_cons, List.length_nil, Nat.zero_add] at z0 z1 hc5 hC5 hc6 hC6
          clear hrd ho
          have hft := frames_take bs j y hyj
          have hfc := frames_cut bs j y hyj
          have hsp := frames_split bs (j + 1)
          have hft2 := congrArg List.length hft
          have hsp2 := congrArg List.length hsp
          rw [List.length_append] at hft2 hsp2
          have hend : j + 1 = l0.length → (frames bs).length = (frames (bs.take (j + 1))).length := fun e => by rw [e, ← hbl, List.take_length]
          obtain ⟨dl, hdl⟩ : ∃ n, (frame y).length = n := ⟨_, rfl⟩
          obtain ⟨off, hoff⟩ : ∃ n, (frames (bs.take j)).length = n := ⟨_, rfl⟩
          rw [hoff] at hC6
          have hpl2 : ∀ (i : Int), 0 ≤ i → i ≤ dl → ∀ W, Below wr.heap.size wr W → Calls Try.prog 14 #[.agg #[.slice A5 dl c5, .slice A6 1 c6], .int .i64 i] W fun e w' => e = .returned (.int .i64 (pl + off + i)) ∧ Below W.heap.size W w' := fun i i0 i1 W hW => by
            refine (Place_calls A5 A6 dl c5 c6 [⟨0, pl + off⟩] i W (by simp) (Kd.C_below hC6 hW) hc6 (by show (1 : Nat) ≤ _; decide) (by omega) (fun s hs => by rw [List.mem_singleton.1 hs]; exact ⟨Int.le_refl 0, by show (0 : Int) ≤ 1000000; decide, by show 0 ≤ pl + off; omega, by show pl + off ≤ _; omega⟩) (by omega)).mono ?_
            rintro e w' ⟨rfl, hb⟩
            refine ⟨?_, hb⟩
            have := place_up (pl + off) dl (by omega) i i0 i1
            rw [segL_up _ _ (by omega)] at this
            rw [this]
          rw [hdl] at z0 hc5 hC5 hfc hft2 hdl0
          rw [hoff] at hfc hft2
          rw [hft2] at hend hsp2
          have hle : off + dl ≤ (frames bs).length := by omega
          clear hsp2
          obtain ⟨tn, htn⟩ : ∃ n, off + dl = n := ⟨_, rfl⟩
          have hp0 := hpl2 0 (Int.le_refl 0) (by omega)
          have hp1 := hpl2 dl (by omega) (Int.le_refl _)
          rw [Int.add_zero] at hp0
          rw [show pl + (off : Int) + (dl : Int) = pl + (tn : Int) by omega] at hp1
          replace hp0 := Aside0.mk hp0
          replace hp1 := Aside0.mk hp1
          obtain ⟨ad8, e8, -⟩ := hC8.out.2.2 (by omega)
          subst e8
          obtain ⟨ad9, e9, x9⟩ := Kd.at_int hC9.out (j : Int) (by omega) (by omega)
          subst e9
          have hr9 : rd (fromsOf bs l0.length) (j : Int) = (off : Int) := by simp [rd, fromsOf, List.getD, hjl2, hoff]
          rw [hr9, Int.toNat_natCast] at x9
          have x10 : j + 1 < l0.length → w5.cell? (ad9.add (j + 1)) = some (.int .i64 (tn : Int)) := fun hjn => by
            obtain ⟨ad, e, x⟩ := Kd.at_int hC9.out ((j : Int) + 1) (by omega) (by omega)
            cases e
            have hr : rd (fromsOf bs l0.length) ((j : Int) + 1) = (tn : Int) := by
              have e1 : ((j : Int) + 1).toNat = j + 1 := by omega
              unfold rd
              rw [e1]
              simp [fromsOf, List.getD, hjn, hft2]
              omega
            rw [hr, show ((j : Int) + 1).toNat = j + 1 by omega] at x
            exact x
          have htd : tn - off = dl := by omega
          have htl : tn ≤ (frames bs).length := by omega
          obtain ⟨sx, hsx⟩ : ∃ s, strOfNums (frame y) = s := ⟨_, rfl⟩
          have hs5 : ∀ W, Below wr.heap.size wr W → (convert 22 9 (.slice A5 dl c5)).run Try.prog W = .ok (.string sx) W := fun W hW => by
            rw [← hsx]
            exact run_string W A5 dl c5 _ (Kd.C_below hC5 hW)
          have hs8 : ∀ W, Below wr.heap.size wr W → (convert 22 9 (.slice (some (ad8.add off)) (tn - off) (c8 - off))).run Try.prog W = .ok (.string sx) W := fun W hW => by
            rw [← hsx, ← hfc, htd]
            refine run_string W _ dl _ _ (C_take (n := (frames bs).length - off) ?_ (by omega))
            have h1 := Kd.C_drop (Kd.C_below (Kd.C_below hC8.out hbr.out) hW) (m := off) (c := c8) (by omega) (by omega)
            rw [if_neg (by omega), List.length_drop, Option.map_some, show off * (Kd.int .u8).sz = off from Nat.mul_one off] at h1
            exact h1
          replace hs5 := Aside0.mk hs5
          replace hs8 := Aside0.mk hs8
          replace x10 := Aside0.mk x10
          replace htd := Aside0.mk htd
          replace htn := Aside0.mk htn
          replace hsx := Aside0.mk hsx
          replace hC5 := Aside0.mk hC5
          replace hdl := Aside0.mk hdl
          replace hoff := Aside0.mk hoff
          replace hend := Aside0.mk hend
          replace hfc := Aside0.mk hfc
          replace hft2 := Aside0.mk hft2
          replace hyj := Aside0.mk hyj
          clear hpl2 hC6 hft hsp
          go_upto_region 23 with (fail)
          obtain ⟨gx, hgxe⟩ : ∃ n, wr.heap.size = n := ⟨_, rfl⟩
          have hX5 := heap_at wr (.cells #[.slice A5 dl c5, .slice A6 1 c6] 37) wr.heap.size rfl
          have hB5 := (Below.refl wr.heap.size wr).alloc (Nat.le_refl _) (.cells #[.slice A5 dl c5, .slice A6 1 c6] 37)
          have hlt : wr.heap.size < (wr.alloc (.cells #[.slice A5 dl c5, .slice A6 1 c6] 37)).heap.size := by rw [World.size_alloc]; omega
          obtain ⟨wa, hwa⟩ : ∃ wa, wr.alloc (.cells #[.slice A5 dl c5, .slice A6 1 c6] 37) = wa := ⟨_, rfl⟩
          rw [hwa] at hX5 hB5 hlt ⊢
          rw [hgxe] at hX5 hlt ⊢
          clear hwa z0 z1
          replace hX5 := Aside0.mk hX5
          replace hB5 := Aside0.mk hB5
          replace hlt := Aside0.mk hlt
          have q1 : tn ≤ c8 := by omega
          have q4 : -9223372036854775808 ≤ pl + (off : Int) ∧ pl + (off : Int) ≤ 9223372036854775807 := by omega
          have q5 : -9223372036854775808 ≤ pl + (tn : Int) ∧ pl + (tn : Int) ≤ 9223372036854775807 := by omega
          have q2 : off ≤ tn := by have := htn.out; omega
          have q3 : ¬ c8 = off := by have := htn.out; omega
          have q6 : wrap64 (pl + (off : Int)) = pl + (off : Int) := IntWalk.wrap64_in _ q4
          have q7 : wrap64 (pl + (tn : Int)) = pl + (tn : Int) := IntWalk.wrap64_in _ q5
          have hgx : gx < wa.drew.heap.size := hlt.out
          have hBz : Aside0 (Below wr.heap.size wr wa.drew) := Aside0.mk (below_drew hB5.out)
          obtain ⟨v0, v1⟩ := cells2F (W := wa.drew) hX5.out
          have v2 : wa.drew.cell? (ad9.add j) = some (.int .i64 (off : Int)) := (hB5.out.cell (World.block_lt_of_cell? _ _ ((hbr.out.cell (World.block_lt_of_cell? _ _ x9)).trans x9))).trans ((hbr.out.cell (World.block_lt_of_cell? _ _ x9)).trans x9)
          have v3 := hs5.out _ hBz.out
          have v4 := hs8.out _ hBz.out
          by_cases hjn : j + 1 < l0.length
          · have k6 : decide ((j : Int) + 1 < (l0.length : Int)) = true := decide_eq_true (by omega)
            have y10 := (hB5.out.cell (World.block_lt_of_cell? _ _ ((hbr.out.cell (World.block_lt_of_cell? _ _ (x10.out hjn))).trans (x10.out hjn)))).trans ((hbr.out.cell (World.block_lt_of_cell? _ _ (x10.out hjn))).trans (x10.out hjn))
            have y11 : wa.cell? ⟨ad9.block, ad9.off + (j + 1), none⟩ = some (.int .i64 (tn : Int)) := by first | exact y10 | (simpa [World.cell?, Addr.add] using y10)
            go_upto_region 25 with (fail)
            refine start_ (n := 34) (S := fun w' => w'.cell? ⟨gx, 0, none⟩ = some (.slice A5 dl c5) ∧ w'.cell? ⟨gx, 1, none⟩ = some (.slice A6 1 c6) ∧ w'.cell? (ad9.add j) = some (.int .i64 (off : Int)) ∧ (convert 22 9 (.slice A5 dl c5)).run Try.prog w' = .ok (.string sx) w' ∧ (convert 22 9 (.slice (some (ad8.add off)) (tn - off) (c8 - off))).run Try.prog w' = .ok (.string sx) w') (ds := []) #[false, false, false, false, false, false, false, false, false, false, false, false, false, false, false, false, false, false, false, false, false, false, false, false, false, false, false, false, false, false, false, false, false, false] (by kernel_rfl) rfl rfl ⟨v0, v1, v2, v3, v4⟩ (fun hHeld => ?_); refine with_tabW HandJoins.tab25 HandJoins.bits25 (fun HT_ HW_ => ?_)
            clear v0 v1 v2 v3 v4
            generalize (wa).drew = wz at hBz hgx hHeld ⊢
            refine pure_ (i := 0) (N := some 103) (v := ?_) (a' := ?_) #[true, false, false, false, false, false, false, false, false, false, false, false, false, false, false, false, false, false, false, false, false, false, false, false, false, false, false, false, false, false, false, false, false, false] rfl rfl (any_of HT_.out (by kernel_rfl)) (fun _ _ _ h => h) (Or.inl ⟨by rfl, ?_⟩) ?_ ?_
            rotate_left
            · intro w'
              go_simp
              with_reducible rfl
            rotate_left
            · simp only [Act.put, List.setIfInBounds_toArray, List.set_cons_zero, List.set_cons_succ, i64_w, i32_w]
              rfl
            refine pure_ (i := 3) (N := some 106) (v := ?_) (a' := ?_) #[true, false, false, true, false, false, false, false, false, false, false, false, false, false, false, false, false, false, false, false, false, false, false, false, false, false, false, false, false, false, false, false, false, false] rfl rfl (any_of HT_.out (by kernel_rfl)) (fun _ _ _ h => h) (Or.inl ⟨by rfl, ?_⟩) ?_ ?_
            rotate_left
            · intro w'
              go_simp
              with_reducible rfl
            rotate_left
            · simp only [Act.put, List.setIfInBounds_toArray, List.set_cons_zero, List.set_cons_succ, i64_w, i32_w]
              rfl
            refine pure_ (i := 4) (N := some 107) (v := ?_) (a' := ?_) #[true, false, false, true, true, false, false, false, false, false, false, false, false, false, false, false, false, false, false, false, false, false, false, false, false, false, false, false, false, false, false, false, false, false] rfl rfl (any_of HT_.out (by kernel_rfl)) (fun _ _ _ h => h) (Or.inl ⟨by rfl, ?_⟩) ?_ ?_
            rotate_left
            · intro w'
              go_simp
              with_reducible rfl
            rotate_left
            · simp only [Act.put, List.setIfInBounds_toArray, List.set_cons_zero, List.set_cons_succ, i64_w, i32_w]
              rfl
            refine pure_ (i := 5) (N := some 108) (v := ?_) (a' := ?_) #[true, false, false, true, true, true, false, false, false, false, false, false, false, false, false, false, false, false, false, false, false, false, false, false, false, false, false, false, false, false, false, false, false, false] rfl rfl (any_of HT_.out (by kernel_rfl)) (fun _ _ _ h => h) (Or.inl ⟨by rfl, ?_⟩) ?_ ?_
            rotate_left
            · intro w'
              go_simp
              with_reducible rfl
            rotate_left
            · simp only [Act.put, List.setIfInBounds_toArray, List.set_cons_zero, List.set_cons_succ, i64_w, i32_w]
              rfl
            refine pure_ (i := 6) (N := some 109) (v := ?_) (a' := ?_) #[true, false, false, true, true, true, true, false, false, false, false, false, false, false, false, false, false, false, false, false, false, false, false, false, false, false, false, false, false, false, false, false, false, false] rfl rfl (any_of HT_.out (by kernel_rfl)) (fun _ _ _ h => h) (Or.inl ⟨by rfl, ?_⟩) ?_ ?_
            rotate_left
            · intro w'
              go_simp
              with_reducible rfl
            rotate_left
            · simp only [Act.put, List.setIfInBounds_toArray, List.set_cons_zero, List.set_cons_succ, i64_w, i32_w]
              rfl
            refine pure_ (i := 8) (N := some 111) (v := ?_) (a' := ?_) #[true, false, false, true, true, true, true, false, true, false, false, false, false, false, false, false, false, false, false, false, false, false, false, false, false, false, false, false, false, false, false, false, false, false] rfl rfl (any_of HT_.out (by kernel_rfl)) (fun _ _ _ h => h) (Or.inl ⟨by rfl, ?_⟩) ?_ ?_
            rotate_left
            · intro w'
              go_simp
              with_reducible rfl
            rotate_left
            · simp only [Act.put, List.setIfInBounds_toArray, List.set_cons_zero, List.set_cons_succ, i64_w, i32_w]
              rfl
            refine take_ (i := 1) (N := some 104) (v := ?_) (a' := ?_) #[true, true, false, true, true, true, true, false, true, false, false, false, false, false, false, false, false, false, false, false, false, false, false, false, false, false, false, false, false, false, false, false, false, false] rfl rfl (take_ofW HT_.out HW_.out (by kernel_rfl)) (fun _ _ _ h => h) (Or.inl ⟨by rfl, ?_⟩) hHeld ?_ ?_
            rotate_left
            · rintro w' ⟨s0, s1, s2, s3, s4⟩
              go_simp
              with_reducible rfl
            rotate_left
            · simp only [Act.put, List.setIfInBounds_toArray, List.set_cons_zero, List.set_cons_succ, i64_w, i32_w]
              rfl
            refine take_ (i := 2) (N := some 105) (v := ?_) (a' := ?_) #[true, true, true, true, true, true, true, false, true, false, false, false, false, false, false, false, false, false, false, false, false, false, false, false, false, false, false, false, false, false, false, false, false, false] rfl rfl (take_ofW HT_.out HW_.out (by kernel_rfl)) (fun _ _ _ h => h) (Or.inl ⟨by rfl, ?_⟩) hHeld ?_ ?_
            rotate_left
            · rintro w' ⟨s0, s1, s2, s3, s4⟩
              go_simp
              with_reducible rfl
            rotate_left
            · simp only [Act.put, List.setIfInBounds_toArray, List.set_cons_zero, List.set_cons_succ, i64_w, i32_w]
              rfl
            refine take_ (i := 7) (N := some 110) (v := ?_) (a' := ?_) #[true, true, true, true, true, true, true, true, true, false, false, false, false, false, false, false, false, false, false, false, false, false, false, false, false, false, false, false, false, false, false, false, false, false] rfl rfl (take_ofW HT_.out HW_.out (by kernel_rfl)) (fun _ _ _ h => h) (Or.inl ⟨by rfl, ?_⟩) hHeld ?_ ?_
            rotate_left
            · rintro w' ⟨s0, s1, s2, s3, s4⟩
              go_simp
              with_reducible rfl
            rotate_left
            · simp only [Act.put, List.setIfInBounds_toArray, List.set_cons_zero, List.set_cons_succ, i64_w, i32_w]
              rfl
            refine pure_ (i := 9) (N := some 112) (v := ?_) (a' := ?_) #[true, true, true, true, true, true, true, true, true, true, false, false, false, false, false, false, false, false, false, false, false, false, false, false, false, false, false, false, false, false, false, false, false, false] rfl rfl (any_of HT_.out (by kernel_rfl)) (fun _ _ _ h => h) (Or.inl ⟨by rfl, ?_⟩) ?_ ?_
            rotate_left
            · intro w'
              go_simp
              with_reducible rfl
            rotate_left
            · simp only [Act.put, List.setIfInBounds_toArray, List.set_cons_zero, List.set_cons_succ, i64_w, i32_w]
              rfl
            refine take_ (i := 10) (N := some 113) (v := ?_) (a' := ?_) #[true, true, true, true, true, true, true, true, true, true, true, false, false, false, false, false, false, false, false, false, false, false, false, false, false, false, false, false, false, false, false, false, false, false] rfl rfl (take_ofW HT_.out HW_.out (by kernel_rfl)) (fun _ _ _ h => h) (Or.inl ⟨by rfl, ?_⟩) hHeld ?_ ?_
            rotate_left
            · rintro w' ⟨s0, s1, s2, s3, s4⟩
              go_simp
              with_reducible rfl
            rotate_left
            · simp only [Act.put, List.setIfInBounds_toArray, List.set_cons_zero, List.set_cons_succ, i64_w, i32_w]
              rfl
            refine pure_ (i := 11) (N := some 114) (v := ?_) (a' := ?_) #[true, true, true, true, true, true, true, true, true, true, true, true, false, false, false, false, false, false, false, false, false, false, false, false, false, false, false, false, false, false, false, false, false, false] rfl rfl (any_of HT_.out (by kernel_rfl)) (fun _ _ _ h => h) (Or.inl ⟨by rfl, ?_⟩) ?_ ?_
            rotate_left
            · intro w'
              go_simp
              with_reducible rfl
            rotate_left
            · simp only [Act.put, List.setIfInBounds_toArray, List.set_cons_zero, List.set_cons_succ, i64_w, i32_w]
              rfl
            refine pure_ (i := 12) (N := some 115) (v := ?_) (a' := ?_) #[true, true, true, true, true, true, true, true, true, true, true, true, true, false, false, false, false, false, false, false, false, false, false, false, false, false, false, false, false, false, false, false, false, false] rfl rfl (any_of HT_.out (by kernel_rfl)) (fun _ _ _ h => h) (Or.inl ⟨by rfl, ?_⟩) ?_ ?_
            rotate_left
            · intro w'
              go_simp
              with_reducible rfl
            rotate_left
            · simp only [Act.put, List.setIfInBounds_toArray, List.set_cons_zero, List.set_cons_succ, i64_w, i32_w]
              rfl
            refine pure_ (i := 15) (N := some 118) (v := ?_) (a' := ?_) #[true, true, true, true, true, true, true, true, true, true, true, true, true, false, false, true, false, false, false, false, false, false, false, false, false, false, false, false, false, false, false, false, false, false] rfl rfl (any_of HT_.out (by kernel_rfl)) (fun _ _ _ h => h) (Or.inl ⟨by rfl, ?_⟩) ?_ ?_
            rotate_left
            · intro w'
              go_simp
              with_reducible rfl
            rotate_left
            · simp only [Act.put, List.setIfInBounds_toArray, List.set_cons_zero, List.set_cons_succ, i64_w, i32_w]
              rfl
            refine pure_ (i := 16) (N := some 119) (v := ?_) (a' := ?_) #[true, true, true, true, true, true, true, true, true, true, true, true, true, false, false, true, true, false, false, false, false, false, false, false, false, false, false, false, false, false, false, false, false, false] rfl rfl (any_of HT_.out (by kernel_rfl)) (fun _ _ _ h => h) (Or.inl ⟨by rfl, ?_⟩) ?_ ?_
            rotate_left
            · intro w'
              go_simp
              with_reducible rfl
            rotate_left
            · simp only [Act.put, List.setIfInBounds_toArray, List.set_cons_zero, List.set_cons_succ, i64_w, i32_w]
              rfl
            refine pure_ (i := 17) (N := some 120) (v := ?_) (a' := ?_) #[true, true, true, true, true, true, true, true, true, true, true, true, true, false, false, true, true, true, false, false, false, false, false, false, false, false, false, false, false, false, false, false, false, false] rfl rfl (any_of HT_.out (by kernel_rfl)) (fun _ _ _ h => h) (Or.inl ⟨by rfl, ?_⟩) ?_ ?_
            rotate_left
            · intro w'
              go_simp
              with_reducible rfl
            rotate_left
            · simp only [Act.put, List.setIfInBounds_toArray, List.set_cons_zero, List.set_cons_succ, i64_w, i32_w]
              rfl
            refine pure_ (i := 18) (N := some 121) (v := ?_) (a' := ?_) #[true, true, true, true, true, true, true, true, true, true, true, true, true, false, false, true, true, true, true, false, false, false, false, false, false, false, false, false, false, false, false, false, false, false] rfl rfl (any_of HT_.out (by kernel_rfl)) (fun _ _ _ h => h) (Or.inl ⟨by rfl, ?_⟩) ?_ ?_
            rotate_left
            · intro w'
              go_simp
              with_reducible rfl
            rotate_left
            · simp only [Act.put, List.setIfInBounds_toArray, List.set_cons_zero, List.set_cons_succ, i64_w, i32_w]
              rfl
            refine take_ (i := 13) (N := some 116) (v := ?_) (a' := ?_) #[true, true, true, true, true, true, true, true, true, true, true, true, true, true, false, true, true, true, true, false, false, false, false, false, false, false, false, false, false, false, false, false, false, false] rfl rfl (take_ofW HT_.out HW_.out (by kernel_rfl)) (fun _ _ _ h => h) (Or.inl ⟨by rfl, ?_⟩) hHeld ?_ ?_
            rotate_left
            · rintro w' ⟨s0, s1, s2, s3, s4⟩
              go_simp
              with_reducible rfl
            rotate_left
            · simp only [Act.put, List.setIfInBounds_toArray, List.set_cons_zero, List.set_cons_succ, i64_w, i32_w]
              rfl
            refine take_ (i := 19) (N := some 122) (v := ?_) (a' := ?_) #[true, true, true, true, true, true, true, true, true, true, true, true, true, true, false, true, true, true, true, true, false, false, false, false, false, false, false, false, false, false, false, false, false, false] rfl rfl (take_ofW HT_.out HW_.out (by kernel_rfl)) (fun _ _ _ h => h) (Or.inl ⟨by rfl, ?_⟩) hHeld ?_ ?_
            rotate_left
            · rintro w' ⟨s0, s1, s2, s3, s4⟩
              go_simp
              with_reducible rfl
            rotate_left
            · simp only [Act.put, List.setIfInBounds_toArray, List.set_cons_zero, List.set_cons_succ, i64_w, i32_w]
              rfl
            refine pure_ (i := 20) (N := some 123) (v := ?_) (a' := ?_) #[true, true, true, true, true, true, true, true, true, true, true, true, true, true, false, true, true, true, true, true, true, false, false, false, false, false, false, false, false, false, false, false, false, false] rfl rfl (any_of HT_.out (by kernel_rfl)) (fun _ _ _ h => h) (Or.inl ⟨by rfl, ?_⟩) ?_ ?_
            rotate_left
            · intro w'
              go_simp
              with_reducible rfl
            rotate_left
            · simp only [Act.put, List.setIfInBounds_toArray, List.set_cons_zero, List.set_cons_succ, i64_w, i32_w]
              rfl
            refine one_ (i := 14) (N := some 117) #[true, true, true, true, true, true, true, true, true, true, true, true, true, true, true, true, true, true, true, true, true, false, false, false, false, false, false, false, false, false, false, false, false, false] rfl rfl (one_of HT_.out (by kernel_rfl)) (by decide) (fun K hK => ?_)
            refine goes_ Try.func14 (by kernel_rfl) rfl #[.agg #[.slice A5 dl c5, .slice A6 1 c6], .int .i64 0] (by rfl) rfl rfl (by simp only [List.map_toArray, List.map_cons, List.map_nil]; rfl) ?_
            with_reducible refine (hp0.out _ hBz.out).mono ?_
            rintro e wA ⟨rfl, hbA⟩
            refine ⟨_, rfl, ?_⟩
            have hBA := Aside0.mk (hBz.out.trans (hbA.mono hBz.out.size))
            have hgA := Nat.lt_of_lt_of_le hgx hbA.size
            refine hK.out _ _ ⟨(hbA.cell (p := ⟨gx, 0, none⟩) hgx).trans hHeld.1, (hbA.cell (p := ⟨gx, 1, none⟩) hgx).trans hHeld.2.1, (hbA.cell (World.block_lt_of_cell? _ _ hHeld.2.2.1)).trans hHeld.2.2.1, hs5.out _ hBA.out, hs8.out _ hBA.out⟩ (fun hHeld => ?_)
            clear hK K
            refine norm_ (a' := ?_) ?_ ?_
            rotate_left
            · show Act.put _ (some 117) _ = _
              simp only [Act.put, List.setIfInBounds_toArray, List.set_cons_zero, List.set_cons_succ, i64_w, i32_w]
              rfl
            refine pure_ (i := 21) (N := some 124) (v := ?_) (a' := ?_) #[true, true, true, true, true, true, true, true, true, true, true, true, true, true, true, true, true, true, true, true, true, true, false, false, false, false, false, false, false, false, false, false, false, false] rfl rfl (any_of HT_.out (by kernel_rfl)) (fun _ _ _ h => h) (Or.inl ⟨by rfl, ?_⟩) ?_ ?_
            rotate_left
            · intro w'
              go_simp
              with_reducible rfl
            rotate_left
            · simp only [Act.put, List.setIfInBounds_toArray, List.set_cons_zero, List.set_cons_succ, i64_w, i32_w]
              rfl
            refine pure_ (i := 22) (N := some 125) (v := ?_) (a' := ?_) #[true, true, true, true, true, true, true, true, true, true, true, true, true, true, true, true, true, true, true, true, true, true, true, false, false, false, false, false, false, false, false, false, false, false] rfl rfl (any_of HT_.out (by kernel_rfl)) (fun _ _ _ h => h) (Or.inl ⟨by rfl, ?_⟩) ?_ ?_
            rotate_left
            · intro w'
              go_simp
              with_reducible rfl
            rotate_left
            · simp only [Act.put, List.setIfInBounds_toArray, List.set_cons_zero, List.set_cons_succ, i64_w, i32_w]
              rfl
            refine pure_ (i := 23) (N := some 126) (v := ?_) (a' := ?_) #[true, true, true, true, true, true, true, true, true, true, true, true, true, true, true, true, true, true, true, true, true, true, true, true, false, false, false, false, false, false, false, false, false, false] rfl rfl (any_of HT_.out (by kernel_rfl)) (fun _ _ _ h => h) (Or.inl ⟨by rfl, ?_⟩) ?_ ?_
            rotate_left
            · intro w'
              go_simp
              with_reducible rfl
            rotate_left
            · simp only [Act.put, List.setIfInBounds_toArray, List.set_cons_zero, List.set_cons_succ, i64_w, i32_w]
              rfl
            refine pure_ (i := 25) (N := some 128) (v := ?_) (a' := ?_) #[true, true, true, true, true, true, true, true, true, true, true, true, true, true, true, true, true, true, true, true, true, true, true, true, false, true, false, false, false, false, false, false, false, false] rfl rfl (any_of HT_.out (by kernel_rfl)) (fun _ _ _ h => h) (Or.inl ⟨by rfl, ?_⟩) ?_ ?_
            rotate_left
            · intro w'
              go_simp
              with_reducible rfl
            rotate_left
            · simp only [Act.put, List.setIfInBounds_toArray, List.set_cons_zero, List.set_cons_succ, i64_w, i32_w]
              rfl
            refine pure_ (i := 29) (N := some 132) (v := ?_) (a' := ?_) #[true, true, true, true, true, true, true, true, true, true, true, true, true, true, true, true, true, true, true, true, true, true, true, true, false, true, false, false, false, true, false, false, false, false] rfl rfl (any_of HT_.out (by kernel_rfl)) (fun _ _ _ h => h) (Or.inl ⟨by rfl, ?_⟩) ?_ ?_
            rotate_left
            · intro w'
              go_simp
              with_reducible rfl
            rotate_left
            · simp only [Act.put, List.setIfInBounds_toArray, List.set_cons_zero, List.set_cons_succ, i64_w, i32_w]
              rfl
            refine pure_ (i := 30) (N := some 133) (v := ?_) (a' := ?_) #[true, true, true, true, true, true, true, true, true, true, true, true, true, true, true, true, true, true, true, true, true, true, true, true, false, true, false, false, false, true, true, false, false, false] rfl rfl (any_of HT_.out (by kernel_rfl)) (fun _ _ _ h => h) (Or.inl ⟨by rfl, ?_⟩) ?_ ?_
            rotate_left
            · intro w'
              go_simp
              with_reducible rfl
            rotate_left
            · simp only [Act.put, List.setIfInBounds_toArray, List.set_cons_zero, List.set_cons_succ, i64_w, i32_w]
              rfl
            refine pure_ (i := 31) (N := some 134) (v := ?_) (a' := ?_) #[true, true, true, true, true, true, true, true, true, true, true, true, true, true, true, true, true, true, true, true, true, true, true, true, false, true, false, false, false, true, true, true, false, false] rfl rfl (any_of HT_.out (by kernel_rfl)) (fun _ _ _ h => h) (Or.inl ⟨by rfl, ?_⟩) ?_ ?_
            rotate_left
            · intro w'
              go_simp
              with_reducible rfl
            rotate_left
            · simp only [Act.put, List.setIfInBounds_toArray, List.set_cons_zero, List.set_cons_succ, i64_w, i32_w]
              rfl
            refine take_ (i := 24) (N := some 127) (v := ?_) (a' := ?_) #[true, true, true, true, true, true, true, true, true, true, true, true, true, true, true, true, true, true, true, true, true, true, true, true, true, true, false, false, false, true, true, true, false, false] rfl rfl (take_ofW HT_.out HW_.out (by kernel_rfl)) (fun _ _ _ h => h) (Or.inl ⟨by rfl, ?_⟩) hHeld ?_ ?_
            rotate_left
            · rintro w' ⟨s0, s1, s2, s3, s4⟩
              go_simp
              with_reducible rfl
            rotate_left
            · simp only [Act.put, List.setIfInBounds_toArray, List.set_cons_zero, List.set_cons_succ, i64_w, i32_w]
              rfl
            refine take_ (i := 26) (N := some 129) (v := ?_) (a' := ?_) #[true, true, true, true, true, true, true, true, true, true, true, true, true, true, true, true, true, true, true, true, true, true, true, true, true, true, true, false, false, true, true, true, false, false] rfl rfl (take_ofW HT_.out HW_.out (by kernel_rfl)) (fun _ _ _ h => h) (Or.inl ⟨by rfl, ?_⟩) hHeld ?_ ?_
            rotate_left
            · rintro w' ⟨s0, s1, s2, s3, s4⟩
              go_simp
              with_reducible rfl
            rotate_left
            · simp only [Act.put, List.setIfInBounds_toArray, List.set_cons_zero, List.set_cons_succ, i64_w, i32_w]
              rfl
            refine pure_ (i := 27) (N := some 130) (v := ?_) (a' := ?_) #[true, true, true, true, true, true, true, true, true, true, true, true, true, true, true, true, true, true, true, true, true, true, true, true, true, true, true, true, false, true, true, true, false, false] rfl rfl (any_of HT_.out (by kernel_rfl)) (fun _ _ _ h => h) (Or.inl ⟨by rfl, ?_⟩) ?_ ?_
            rotate_left
            · intro w'
              go_simp
              with_reducible rfl
            rotate_left
            · simp only [Act.put, List.setIfInBounds_toArray, List.set_cons_zero, List.set_cons_succ, i64_w, i32_w]
              rfl
            refine one_ (i := 28) (N := some 131) #[true, true, true, true, true, true, true, true, true, true, true, true, true, true, true, true, true, true, true, true, true, true, true, true, true, true, true, true, true, true, true, true, false, false] rfl rfl (one_of HT_.out (by kernel_rfl)) (by decide) (fun K hK => ?_)
            refine goes_ Try.func14 (by kernel_rfl) rfl #[.agg #[.slice A5 dl c5, .slice A6 1 c6], .int .i64 (dl : Int)] (by rfl) rfl rfl (by simp only [List.map_toArray, List.map_cons, List.map_nil]; rfl) ?_
            with_reducible refine (hp1.out _ hBA.out).mono ?_
            rintro e wB ⟨rfl, hbB⟩
            refine ⟨_, rfl, ?_⟩
            have hBB := Aside0.mk (hBA.out.trans (hbB.mono hBA.out.size))
            refine hK.out _ _ ⟨(hbB.cell (p := ⟨gx, 0, none⟩) hgA).trans hHeld.1, (hbB.cell (p := ⟨gx, 1, none⟩) hgA).trans hHeld.2.1, (hbB.cell (World.block_lt_of_cell? _ _ hHeld.2.2.1)).trans hHeld.2.2.1, hs5.out _ hBB.out, hs8.out _ hBB.out⟩ (fun hHeld => ?_)
            clear hK K
            refine norm_ (a' := ?_) ?_ ?_
            rotate_left
            · show Act.put _ (some 131) _ = _
              simp only [Act.put, List.setIfInBounds_toArray, List.set_cons_zero, List.set_cons_succ, i64_w, i32_w]
              rfl
            refine pure_ (i := 32) (N := some 135) (v := ?_) (a' := ?_) #[true, true, true, true, true, true, true, true, true, true, true, true, true, true, true, true, true, true, true, true, true, true, true, true, true, true, true, true, true, true, true, true, true, false] rfl rfl (any_of HT_.out (by kernel_rfl)) (fun _ _ _ h => h) (Or.inl ⟨by rfl, ?_⟩) ?_ ?_
            rotate_left
            · intro w'
              go_simp
              with_reducible rfl
            rotate_left
            · simp only [Act.put, List.setIfInBounds_toArray, List.set_cons_zero, List.set_cons_succ, i64_w, i32_w]
              rfl
            refine pure_ (i := 33) (N := some 136) (v := ?_) (a' := ?_) #[true, true, true, true, true, true, true, true, true, true, true, true, true, true, true, true, true, true, true, true, true, true, true, true, true, true, true, true, true, true, true, true, true, true] rfl rfl (any_of HT_.out (by kernel_rfl)) (fun _ _ _ h => h) (Or.inl ⟨by rfl, ?_⟩) ?_ ?_
            rotate_left
            · intro w'
              go_simp
              with_reducible rfl
            rotate_left
            · simp only [Act.put, List.setIfInBounds_toArray, List.set_cons_zero, List.set_cons_succ, i64_w, i32_w]
              rfl
            refine done_ (done_of HT_.out (by kernel_rfl)) ?_
            go_wp2
            go_roundw
            case rel => exact ⟨j + 1, rfl, by omega, hbw.out.trans (hBB.out.mono hbw.out.size), hbr.out.trans (hBB.out.mono hbr.out.size)⟩
            case measure => simp [intOf]; omega
          · have k6 : decide ((j : Int) + 1 < (l0.length : Int)) = false := decide_eq_false (by omega)
            have hfe : (frames bs).length = tn := (hend.out (by omega)).trans htn.out
            go_upto_region 25 with (fail)
            rw [hfe]
            replace hfe := Aside0.mk hfe
            refine start_ (n := 34) (S := fun w' => w'.cell? ⟨gx, 0, none⟩ = some (.slice A5 dl c5) ∧ w'.cell? ⟨gx, 1, none⟩ = some (.slice A6 1 c6) ∧ w'.cell? (ad9.add j) = some (.int .i64 (off : Int)) ∧ (convert 22 9 (.slice A5 dl c5)).run Try.prog w' = .ok (.string sx) w' ∧ (convert 22 9 (.slice (some (ad8.add off)) (tn - off) (c8 - off))).run Try.prog w' = .ok (.string sx) w') (ds := []) #[false, false, false, false, false, false, false, false, false, false, false, false, false, false, false, false, false, false, false, false, false, false, false, false, false, false, false, false, false, false, false, false, false, false] (by kernel_rfl) rfl rfl ⟨v0, v1, v2, v3, v4⟩ (fun hHeld => ?_); refine with_tabW HandJoins.tab25 HandJoins.bits25 (fun HT_ HW_ => ?_)
            clear v0 v1 v2 v3 v4
            generalize (wa).drew = wz at hBz hgx hHeld ⊢
            refine pure_ (i := 0) (N := some 103) (v := ?_) (a' := ?_) #[true, false, false, false, false, false, false, false, false, false, false, false, false, false, false, false, false, false, false, false, false, false, false, false, false, false, false, false, false, false, false, false, false, false] rfl rfl (any_of HT_.out (by kernel_rfl)) (fun _ _ _ h => h) (Or.inl ⟨by rfl, ?_⟩) ?_ ?_
            rotate_left
            · intro w'
              go_simp
              with_reducible rfl
            rotate_left
            · simp only [Act.put, List.setIfInBounds_toArray, List.set_cons_zero, List.set_cons_succ, i64_w, i32_w]
              rfl
            refine pure_ (i := 3) (N := some 106) (v := ?_) (a' := ?_) #[true, false, false, true, false, false, false, false, false, false, false, false, false, false, false, false, false, false, false, false, false, false, false, false, false, false, false, false, false, false, false, false, false, false] rfl rfl (any_of HT_.out (by kernel_rfl)) (fun _ _ _ h => h) (Or.inl ⟨by rfl, ?_⟩) ?_ ?_
            rotate_left
            · intro w'
              go_simp
              with_reducible rfl
            rotate_left
            · simp only [Act.put, List.setIfInBounds_toArray, List.set_cons_zero, List.set_cons_succ, i64_w, i32_w]
              rfl
            refine pure_ (i := 4) (N := some 107) (v := ?_) (a' := ?_) #[true, false, false, true, true, false, false, false, false, false, false, false, false, false, false, false, false, false, false, false, false, false, false, false, false, false, false, false, false, false, false, false, false, false] rfl rfl (any_of HT_.out (by kernel_rfl)) (fun _ _ _ h => h) (Or.inl ⟨by rfl, ?_⟩) ?_ ?_
            rotate_left
            · intro w'
              go_simp
              with_reducible rfl
            rotate_left
            · simp only [Act.put, List.setIfInBounds_toArray, List.set_cons_zero, List.set_cons_succ, i64_w, i32_w]
              rfl
            refine pure_ (i := 5) (N := some 108) (v := ?_) (a' := ?_) #[true, false, false, true, true, true, false, false, false, false, false, false, false, false, false, false, false, false, false, false, false, false, false, false, false, false, false, false, false, false, false, false, false, false] rfl rfl (any_of HT_.out (by kernel_rfl)) (fun _ _ _ h => h) (Or.inl ⟨by rfl, ?_⟩) ?_ ?_
            rotate_left
            · intro w'
              go_simp
              with_reducible rfl
            rotate_left
            · simp only [Act.put, List.setIfInBounds_toArray, List.set_cons_zero, List.set_cons_succ, i64_w, i32_w]
              rfl
            refine pure_ (i := 6) (N := some 109) (v := ?_) (a' := ?_) #[true, false, false, true, true, true, true, false, false, false, false, false, false, false, false, false, false, false, false, false, false, false, false, false, false, false, false, false, false, false, false, false, false, false] rfl rfl (any_of HT_.out (by kernel_rfl)) (fun _ _ _ h => h) (Or.inl ⟨by rfl, ?_⟩) ?_ ?_
            rotate_left
            · intro w'
              go_simp
              with_reducible rfl
            rotate_left
            · simp only [Act.put, List.setIfInBounds_toArray, List.set_cons_zero, List.set_cons_succ, i64_w, i32_w]
              rfl
            refine pure_ (i := 8) (N := some 111) (v := ?_) (a' := ?_) #[true, false, false, true, true, true, true, false, true, false, false, false, false, false, false, false, false, false, false, false, false, false, false, false, false, false, false, false, false, false, false, false, false, false] rfl rfl (any_of HT_.out (by kernel_rfl)) (fun _ _ _ h => h) (Or.inl ⟨by rfl, ?_⟩) ?_ ?_
            rotate_left
            · intro w'
              go_simp
              with_reducible rfl
            rotate_left
            · simp only [Act.put, List.setIfInBounds_toArray, List.set_cons_zero, List.set_cons_succ, i64_w, i32_w]
              rfl
            refine take_ (i := 1) (N := some 104) (v := ?_) (a' := ?_) #[true, true, false, true, true, true, true, false, true, false, false, false, false, false, false, false, false, false, false, false, false, false, false, false, false, false, false, false, false, false, false, false, false, false] rfl rfl (take_ofW HT_.out HW_.out (by kernel_rfl)) (fun _ _ _ h => h) (Or.inl ⟨by rfl, ?_⟩) hHeld ?_ ?_
            rotate_left
            · rintro w' ⟨s0, s1, s2, s3, s4⟩
              go_simp
              with_reducible rfl
            rotate_left
            · simp only [Act.put, List.setIfInBounds_toArray, List.set_cons_zero, List.set_cons_succ, i64_w, i32_w]
              rfl
            refine take_ (i := 2) (N := some 105) (v := ?_) (a' := ?_) #[true, true, true, true, true, true, true, false, true, false, false, false, false, false, false, false, false, false, false, false, false, false, false, false, false, false, false, false, false, false, false, false, false, false] rfl rfl (take_ofW HT_.out HW_.out (by kernel_rfl)) (fun _ _ _ h => h) (Or.inl ⟨by rfl, ?_⟩) hHeld ?_ ?_
            rotate_left
            · rintro w' ⟨s0, s1, s2, s3, s4⟩
              go_simp
              with_reducible rfl
            rotate_left
            · simp only [Act.put, List.setIfInBounds_toArray, List.set_cons_zero, List.set_cons_succ, i64_w, i32_w]
              rfl
            refine take_ (i := 7) (N := some 110) (v := ?_) (a' := ?_) #[true, true, true, true, true, true, true, true, true, false, false, false, false, false, false, false, false, false, false, false, false, false, false, false, false, false, false, false, false, false, false, false, false, false] rfl rfl (take_ofW HT_.out HW_.out (by kernel_rfl)) (fun _ _ _ h => h) (Or.inl ⟨by rfl, ?_⟩) hHeld ?_ ?_
            rotate_left
            · rintro w' ⟨s0, s1, s2, s3, s4⟩
              go_simp
              with_reducible rfl
            rotate_left
            · simp only [Act.put, List.setIfInBounds_toArray, List.set_cons_zero, List.set_cons_succ, i64_w, i32_w]
              rfl
            refine pure_ (i := 9) (N := some 112) (v := ?_) (a' := ?_) #[true, true, true, true, true, true, true, true, true, true, false, false, false, false, false, false, false, false, false, false, false, false, false, false, false, false, false, false, false, false, false, false, false, false] rfl rfl (any_of HT_.out (by kernel_rfl)) (fun _ _ _ h => h) (Or.inl ⟨by rfl, ?_⟩) ?_ ?_
            rotate_left
            · intro w'
              go_simp
              with_reducible rfl
            rotate_left
            · simp only [Act.put, List.setIfInBounds_toArray, List.set_cons_zero, List.set_cons_succ, i64_w, i32_w]
              rfl
            refine take_ (i := 10) (N := some 113) (v := ?_) (a' := ?_) #[true, true, true, true, true, true, true, true, true, true, true, false, false, false, false, false, false, false, false, false, false, false, false, false, false, false, false, false, false, false, false, false, false, false] rfl rfl (take_ofW HT_.out HW_.out (by kernel_rfl)) (fun _ _ _ h => h) (Or.inl ⟨by rfl, ?_⟩) hHeld ?_ ?_
            rotate_left
            · rintro w' ⟨s0, s1, s2, s3, s4⟩
              go_simp
              with_reducible rfl
            rotate_left
            · simp only [Act.put, List.setIfInBounds_toArray, List.set_cons_zero, List.set_cons_succ, i64_w, i32_w]
              rfl
            refine pure_ (i := 11) (N := some 114) (v := ?_) (a' := ?_) #[true, true, true, true, true, true, true, true, true, true, true, true, false, false, false, false, false, false, false, false, false, false, false, false, false, false, false, false, false, false, false, false, false, false] rfl rfl (any_of HT_.out (by kernel_rfl)) (fun _ _ _ h => h) (Or.inl ⟨by rfl, ?_⟩) ?_ ?_
            rotate_left
            · intro w'
              go_simp
              with_reducible rfl
            rotate_left
            · simp only [Act.put, List.setIfInBounds_toArray, List.set_cons_zero, List.set_cons_succ, i64_w, i32_w]
              rfl
            refine pure_ (i := 12) (N := some 115) (v := ?_) (a' := ?_) #[true, true, true, true, true, true, true, true, true, true, true, true, true, false, false, false, false, false, false, false, false, false, false, false, false, false, false, false, false, false, false, false, false, false] rfl rfl (any_of HT_.out (by kernel_rfl)) (fun _ _ _ h => h) (Or.inl ⟨by rfl, ?_⟩) ?_ ?_
            rotate_left
            · intro w'
              go_simp
              with_reducible rfl
            rotate_left
            · simp only [Act.put, List.setIfInBounds_toArray, List.set_cons_zero, List.set_cons_succ, i64_w, i32_w]
              rfl
            refine pure_ (i := 15) (N := some 118) (v := ?_) (a' := ?_) #[true, true, true, true, true, true, true, true, true, true, true, true, true, false, false, true, false, false, false, false, false, false, false, false, false, false, false, false, false, false, false, false, false, false] rfl rfl (any_of HT_.out (by kernel_rfl)) (fun _ _ _ h => h) (Or.inl ⟨by rfl, ?_⟩) ?_ ?_
            rotate_left
            · intro w'
              go_simp
              with_reducible rfl
            rotate_left
            · simp only [Act.put, List.setIfInBounds_toArray, List.set_cons_zero, List.set_cons_succ, i64_w, i32_w]
              rfl
            refine pure_ (i := 16) (N := some 119) (v := ?_) (a' := ?_) #[true, true, true, true, true, true, true, true, true, true, true, true, true, false, false, true, true, false, false, false, false, false, false, false, false, false, false, false, false, false, false, false, false, false] rfl rfl (any_of HT_.out (by kernel_rfl)) (fun _ _ _ h => h) (Or.inl ⟨by rfl, ?_⟩) ?_ ?_
            rotate_left
            · intro w'
              go_simp
              with_reducible rfl
            rotate_left
            · simp only [Act.put, List.setIfInBounds_toArray, List.set_cons_zero, List.set_cons_succ, i64_w, i32_w]
              rfl
            refine pure_ (i := 17) (N := some 120) (v := ?_) (a' := ?_) #[true, true, true, true, true, true, true, true, true, true, true, true, true, false, false, true, true, true, false, false, false, false, false, false, false, false, false, false, false, false, false, false, false, false] rfl rfl (any_of HT_.out (by kernel_rfl)) (fun _ _ _ h => h) (Or.inl ⟨by rfl, ?_⟩) ?_ ?_
            rotate_left
            · intro w'
              go_simp
              with_reducible rfl
            rotate_left
            · simp only [Act.put, List.setIfInBounds_toArray, List.set_cons_zero, List.set_cons_succ, i64_w, i32_w]
              rfl
            refine pure_ (i := 18) (N := some 121) (v := ?_) (a' := ?_) #[true, true, true, true, true, true, true, true, true, true, true, true, true, false, false, true, true, true, true, false, false, false, false, false, false, false, false, false, false, false, false, false, false, false] rfl rfl (any_of HT_.out (by kernel_rfl)) (fun _ _ _ h => h) (Or.inl ⟨by rfl, ?_⟩) ?_ ?_
            rotate_left
            · intro w'
              go_simp
              with_reducible rfl
            rotate_left
            · simp only [Act.put, List.setIfInBounds_toArray, List.set_cons_zero, List.set_cons_succ, i64_w, i32_w]
              rfl
            refine take_ (i := 13) (N := some 116) (v := ?_) (a' := ?_) #[true, true, true, true, true, true, true, true, true, true, true, true, true, true, false, true, true, true, true, false, false, false, false, false, false, false, false, false, false, false, false, false, false, false] rfl rfl (take_ofW HT_.out HW_.out (by kernel_rfl)) (fun _ _ _ h => h) (Or.inl ⟨by rfl, ?_⟩) hHeld ?_ ?_
            rotate_left
            · rintro w' ⟨s0, s1, s2, s3, s4⟩
              go_simp
              with_reducible rfl
            rotate_left
            · simp only [Act.put, List.setIfInBounds_toArray, List.set_cons_zero, List.set_cons_succ, i64_w, i32_w]
              rfl
            refine take_ (i := 19) (N := some 122) (v := ?_) (a' := ?_) #[true, true, true, true, true, true, true, true, true, true, true, true, true, true, false, true, true, true, true, true, false, false, false, false, false, false, false, false, false, false, false, false, false, false] rfl rfl (take_ofW HT_.out HW_.out (by kernel_rfl)) (fun _ _ _ h => h) (Or.inl ⟨by rfl, ?_⟩) hHeld ?_ ?_
            rotate_left
            · rintro w' ⟨s0, s1, s2, s3, s4⟩
              go_simp
              with_reducible rfl
            rotate_left
            · simp only [Act.put, List.setIfInBounds_toArray, List.set_cons_zero, List.set_cons_succ, i64_w, i32_w]
              rfl
            refine pure_ (i := 20) (N := some 123) (v := ?_) (a' := ?_) #[true, true, true, true, true, true, true, true, true, true, true, true, true, true, false, true, true, true, true, true, true, false, false, false, false, false, false, false, false, false, false, false, false, false] rfl rfl (any_of HT_.out (by kernel_rfl)) (fun _ _ _ h => h) (Or.inl ⟨by rfl, ?_⟩) ?_ ?_
            rotate_left
            · intro w'
              go_simp
              with_reducible rfl
            rotate_left
            · simp only [Act.put, List.setIfInBounds_toArray, List.set_cons_zero, List.set_cons_succ, i64_w, i32_w]
              rfl
            refine one_ (i := 14) (N := some 117) #[true, true, true, true, true, true, true, true, true, true, true, true, true, true, true, true, true, true, true, true, true, false, false, false, false, false, false, false, false, false, false, false, false, false] rfl rfl (one_of HT_.out (by kernel_rfl)) (by decide) (fun K hK => ?_)
            refine goes_ Try.func14 (by kernel_rfl) rfl #[.agg #[.slice A5 dl c5, .slice A6 1 c6], .int .i64 0] (by rfl) rfl rfl (by simp only [List.map_toArray, List.map_cons, List.map_nil]; rfl) ?_
            with_reducible refine (hp0.out _ hBz.out).mono ?_
            rintro e wA ⟨rfl, hbA⟩
            refine ⟨_, rfl, ?_⟩
            have hBA := Aside0.mk (hBz.out.trans (hbA.mono hBz.out.size))
            have hgA := Nat.lt_of_lt_of_le hgx hbA.size
            refine hK.out _ _ ⟨(hbA.cell (p := ⟨gx, 0, none⟩) hgx).trans hHeld.1, (hbA.cell (p := ⟨gx, 1, none⟩) hgx).trans hHeld.2.1, (hbA.cell (World.block_lt_of_cell? _ _ hHeld.2.2.1)).trans hHeld.2.2.1, hs5.out _ hBA.out, hs8.out _ hBA.out⟩ (fun hHeld => ?_)
            clear hK K
            refine norm_ (a' := ?_) ?_ ?_
            rotate_left
            · show Act.put _ (some 117) _ = _
              simp only [Act.put, List.setIfInBounds_toArray, List.set_cons_zero, List.set_cons_succ, i64_w, i32_w]
              rfl
            refine pure_ (i := 21) (N := some 124) (v := ?_) (a' := ?_) #[true, true, true, true, true, true, true, true, true, true, true, true, true, true, true, true, true, true, true, true, true, true, false, false, false, false, false, false, false, false, false, false, false, false] rfl rfl (any_of HT_.out (by kernel_rfl)) (fun _ _ _ h => h) (Or.inl ⟨by rfl, ?_⟩) ?_ ?_
            rotate_left
            · intro w'
              go_simp
              with_reducible rfl
            rotate_left
            · simp only [Act.put, List.setIfInBounds_toArray, List.set_cons_zero, List.set_cons_succ, i64_w, i32_w]
              rfl
            refine pure_ (i := 22) (N := some 125) (v := ?_) (a' := ?_) #[true, true, true, true, true, true, true, true, true, true, true, true, true, true, true, true, true, true, true, true, true, true, true, false, false, false, false, false, false, false, false, false, false, false] rfl rfl (any_of HT_.out (by kernel_rfl)) (fun _ _ _ h => h) (Or.inl ⟨by rfl, ?_⟩) ?_ ?_
            rotate_left
            · intro w'
              go_simp
              with_reducible rfl
            rotate_left
            · simp only [Act.put, List.setIfInBounds_toArray, List.set_cons_zero, List.set_cons_succ, i64_w, i32_w]
              rfl
            refine pure_ (i := 23) (N := some 126) (v := ?_) (a' := ?_) #[true, true, true, true, true, true, true, true, true, true, true, true, true, true, true, true, true, true, true, true, true, true, true, true, false, false, false, false, false, false, false, false, false, false] rfl rfl (any_of HT_.out (by kernel_rfl)) (fun _ _ _ h => h) (Or.inl ⟨by rfl, ?_⟩) ?_ ?_
            rotate_left
            · intro w'
              go_simp
              with_reducible rfl
            rotate_left
            · simp only [Act.put, List.setIfInBounds_toArray, List.set_cons_zero, List.set_cons_succ, i64_w, i32_w]
              rfl
            refine pure_ (i := 25) (N := some 128) (v := ?_) (a' := ?_) #[true, true, true, true, true, true, true, true, true, true, true, true, true, true, true, true, true, true, true, true, true, true, true, true, false, true, false, false, false, false, false, false, false, false] rfl rfl (any_of HT_.out (by kernel_rfl)) (fun _ _ _ h => h) (Or.inl ⟨by rfl, ?_⟩) ?_ ?_
            rotate_left
            · intro w'
              go_simp
              with_reducible rfl
            rotate_left
            · simp only [Act.put, List.setIfInBounds_toArray, List.set_cons_zero, List.set_cons_succ, i64_w, i32_w]
              rfl
            refine pure_ (i := 29) (N := some 132) (v := ?_) (a' := ?_) #[true, true, true, true, true, true, true, true, true, true, true, true, true, true, true, true, true, true, true, true, true, true, true, true, false, true, false, false, false, true, false, false, false, false] rfl rfl (any_of HT_.out (by kernel_rfl)) (fun _ _ _ h => h) (Or.inl ⟨by rfl, ?_⟩) ?_ ?_
            rotate_left
            · intro w'
              go_simp
              with_reducible rfl
            rotate_left
            · simp only [Act.put, List.setIfInBounds_toArray, List.set_cons_zero, List.set_cons_succ, i64_w, i32_w]
              rfl
            refine pure_ (i := 30) (N := some 133) (v := ?_) (a' := ?_) #[true, true, true, true, true, true, true, true, true, true, true, true, true, true, true, true, true, true, true, true, true, true, true, true, false, true, false, false, false, true, true, false, false, false] rfl rfl (any_of HT_.out (by kernel_rfl)) (fun _ _ _ h => h) (Or.inl ⟨by rfl, ?_⟩) ?_ ?_
            rotate_left
            · intro w'
              go_simp
              with_reducible rfl
            rotate_left
            · simp only [Act.put, List.setIfInBounds_toArray, List.set_cons_zero, List.set_cons_succ, i64_w, i32_w]
              rfl
            refine pure_ (i := 31) (N := some 134) (v := ?_) (a' := ?_) #[true, true, true, true, true, true, true, true, true, true, true, true, true, true, true, true, true, true, true, true, true, true, true, true, false, true, false, false, false, true, true, true, false, false] rfl rfl (any_of HT_.out (by kernel_rfl)) (fun _ _ _ h => h) (Or.inl ⟨by rfl, ?_⟩) ?_ ?_
            rotate_left
            · intro w'
              go_simp
              with_reducible rfl
            rotate_left
            · simp only [Act.put, List.setIfInBounds_toArray, List.set_cons_zero, List.set_cons_succ, i64_w, i32_w]
              rfl
            refine take_ (i := 24) (N := some 127) (v := ?_) (a' := ?_) #[true, true, true, true, true, true, true, true, true, true, true, true, true, true, true, true, true, true, true, true, true, true, true, true, true, true, false, false, false, true, true, true, false, false] rfl rfl (take_ofW HT_.out HW_.out (by kernel_rfl)) (fun _ _ _ h => h) (Or.inl ⟨by rfl, ?_⟩) hHeld ?_ ?_
            rotate_left
            · rintro w' ⟨s0, s1, s2, s3, s4⟩
              go_simp
              with_reducible rfl
            rotate_left
            · simp only [Act.put, List.setIfInBounds_toArray, List.set_cons_zero, List.set_cons_succ, i64_w, i32_w]
              rfl
            refine take_ (i := 26) (N := some 129) (v := ?_) (a' := ?_) #[true, true, true, true, true, true, true, true, true, true, true, true, true, true, true, true, true, true, true, true, true, true, true, true, true, true, true, false, false, true, true, true, false, false] rfl rfl (take_ofW HT_.out HW_.out (by kernel_rfl)) (fun _ _ _ h => h) (Or.inl ⟨by rfl, ?_⟩) hHeld ?_ ?_
            rotate_left
            · rintro w' ⟨s0, s1, s2, s3, s4⟩
              go_simp
              with_reducible rfl
            rotate_left
            · simp only [Act.put, List.setIfInBounds_toArray, List.set_cons_zero, List.set_cons_succ, i64_w, i32_w]
              rfl
            refine pure_ (i := 27) (N := some 130) (v := ?_) (a' := ?_) #[true, true, true, true, true, true, true, true, true, true, true, true, true, true, true, true, true, true, true, true, true, true, true, true, true, true, true, true, false, true, true, true, false, false] rfl rfl (any_of HT_.out (by kernel_rfl)) (fun _ _ _ h => h) (Or.inl ⟨by rfl, ?_⟩) ?_ ?_
            rotate_left
            · intro w'
              go_simp
              with_reducible rfl
            rotate_left
            · simp only [Act.put, List.setIfInBounds_toArray, List.set_cons_zero, List.set_cons_succ, i64_w, i32_w]
              rfl
            refine one_ (i := 28) (N := some 131) #[true, true, true, true, true, true, true, true, true, true, true, true, true, true, true, true, true, true, true, true, true, true, true, true, true, true, true, true, true, true, true, true, false, false] rfl rfl (one_of HT_.out (by kernel_rfl)) (by decide) (fun K hK => ?_)
            refine goes_ Try.func14 (by kernel_rfl) rfl #[.agg #[.slice A5 dl c5, .slice A6 1 c6], .int .i64 (dl : Int)] (by rfl) rfl rfl (by simp only [List.map_toArray, List.map_cons, List.map_nil]; rfl) ?_
            with_reducible refine (hp1.out _ hBA.out).mono ?_
            rintro e wB ⟨rfl, hbB⟩
            refine ⟨_, rfl, ?_⟩
            have hBB := Aside0.mk (hBA.out.trans (hbB.mono hBA.out.size))
            refine hK.out _ _ ⟨(hbB.cell (p := ⟨gx, 0, none⟩) hgA).trans hHeld.1, (hbB.cell (p := ⟨gx, 1, none⟩) hgA).trans hHeld.2.1, (hbB.cell (World.block_lt_of_cell? _ _ hHeld.2.2.1)).trans hHeld.2.2.1, hs5.out _ hBB.out, hs8.out _ hBB.out⟩ (fun hHeld => ?_)
            clear hK K
            refine norm_ (a' := ?_) ?_ ?_
            rotate_left
            · show Act.put _ (some 131) _ = _
              simp only [Act.put, List.setIfInBounds_toArray, List.set_cons_zero, List.set_cons_succ, i64_w, i32_w]
              rfl
            refine pure_ (i := 32) (N := some 135) (v := ?_) (a' := ?_) #[true, true, true, true, true, true, true, true, true, true, true, true, true, true, true, true, true, true, true, true, true, true, true, true, true, true, true, true, true, true, true, true, true, false] rfl rfl (any_of HT_.out (by kernel_rfl)) (fun _ _ _ h => h) (Or.inl ⟨by rfl, ?_⟩) ?_ ?_
            rotate_left
            · intro w'
              go_simp
              with_reducible rfl
            rotate_left
            · simp only [Act.put, List.setIfInBounds_toArray, List.set_cons_zero, List.set_cons_succ, i64_w, i32_w]
              rfl
            refine pure_ (i := 33) (N := some 136) (v := ?_) (a' := ?_) #[true, true, true, true, true, true, true, true, true, true, true, true, true, true, true, true, true, true, true, true, true, true, true, true, true, true, true, true, true, true, true, true, true, true] rfl rfl (any_of HT_.out (by kernel_rfl)) (fun _ _ _ h => h) (Or.inl ⟨by rfl, ?_⟩) ?_ ?_
            rotate_left
            · intro w'
              go_simp
              with_reducible rfl
            rotate_left
            · simp only [Act.put, List.setIfInBounds_toArray, List.set_cons_zero, List.set_cons_succ, i64_w, i32_w]
              rfl
            refine done_ (done_of HT_.out (by kernel_rfl)) ?_
            go_wp2
            rw [← hfe.out]
            go_roundw
            case rel => exact ⟨j + 1, rfl, by omega, hbw.out.trans (hBB.out.mono hbw.out.size), hbr.out.trans (hBB.out.mono hbr.out.size)⟩
            case measure => simp [intOf]; omega
        · have k5 : decide ((j : Int) < (l0.length : Int)) = false := decide_eq_false (by omega)
          go_wp2
          go_ret
          exact ⟨rfl, hbw.out⟩
end Go.Proofs.Ytmdmllfbdpoeeaa
