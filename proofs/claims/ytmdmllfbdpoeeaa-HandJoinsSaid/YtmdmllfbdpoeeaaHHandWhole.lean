/- The law HandWhole returns true: the messages, one behind the other, and what is held, are all bytes that came, up to where it failed; the number is an int's. -/
import Derived.Test.YtmdmllfbdpoeeaaHHandG
import Derived.Test.YtmdmllfbdpoeeaaHHandLaws
import Derived.Test.YtmdmllfbdpoeeaaHRefH
namespace Go.Proofs.Ytmdmllfbdpoeeaa
open Go Go.RowKit Go.Maps Go.Proofs.Hand Go.Proofs.YtmdmllfbdpoeeaaW.PrintWords Go.Proofs.YtmdmllfbdpoeeaaW.PrintLast Go.Proofs.YtmdmllfbdpoeeaaW.PrintMore
set_option maxRecDepth 100000
set_option linter.unusedVariables false
set_option linter.unusedSimpArgs false

theorem most_in (a0 : Int) : ∃ m : Int, passepartoutlaw17_most.f a0 = some m ∧ 4 ≤ m ∧ m ≤ 3003 := ⟨_, rfl, by omega, by omega⟩
def HandWhole.T11 : Bool × List (List Nat × List Nat) := (true, [([], []), ([0], [0]), ([1], [1]), ([2], [2]), ([3], [3]), ([4], [4]), ([5, 4], [4, 5]), ([6, 4], [4, 6]), ([4], [4]), ([8, 4, 4], [4, 8]), ([7, 9, 4], [4, 7, 9]), ([4, 10], [4, 10]), ([11, 9], [11]), ([12], [12]), ([13, 12, 12], [12, 13]), ([12], [12]), ([15, 12], [12, 15]), ([14, 16, 12], [12, 14, 16]), ([12, 17], [12, 17])])
def HandWhole.B11 : List Nat := [0, 1, 3, 7, 15, 31, 63, 127, 31, 287, 1023, 2047, 4095, 8191, 16383, 8191, 40959, 131071, 262143]
theorem HandWhole.tab11 : rtab .any (opsOf Try.f4 11) = HandWhole.T11 := by kernel_rfl
theorem HandWhole.bits11 : waitsOk HandWhole.T11.2 HandWhole.B11 = true := by kernel_rfl
theorem strOfNums_append (a b : List Int) : strOfNums (a ++ b) = strOfNums a ++ strOfNums b := by
  apply ByteArray.ext
  simp [strOfNums, ByteArray.data_append]
theorem C_take {α : Type} {d : Kd α} {W : World} {A : Option Addr} {n k : Nat} {l : List α} (h : d.C W A n l) (hk : k ≤ n) : d.C W A k (l.take k) := by
  have h1 := h.1
  refine ⟨by rw [List.length_take]; omega, Nat.le_trans hk h.2.1, fun h0 => ?_⟩
  obtain ⟨ad, e, hc⟩ := h.2.2 (by omega)
  refine ⟨ad, e, fun j p hj => hc j p ?_⟩
  have := (List.getElem?_eq_some_iff.1 hj).1
  rw [List.length_take] at this
  rwa [List.getElem?_take_of_lt (by omega)] at hj
theorem mem_upFrom : ∀ {n : Nat} {a p : Int}, p ∈ upFrom a n → a ≤ p ∧ p < a + n
  | 0, _, _, h => by cases h
  | n + 1, a, p, h => by
    rcases List.mem_cons.1 h with h | h
    · omega
    · have := mem_upFrom h
      omega
set_option maxHeartbeats 4000000 in
theorem HandWhole_walk (a0 : Int) (A1 : Option Addr) (c1 : Nat) (l1 : List Int) (w : World) (w0 : (Lit.int .i64 a0).wf = true) (hC : (Kd.int .u8).C w A1 l1.length l1) (hc : l1.length ≤ c1) (hw : ∀ n ∈ l1, (Lit.int .u8 n).wf = true) :
    Calls Try.prog 4 #[.int .i64 a0, .slice A1 l1.length c1] w fun e w' => e = .returned (.bool true) ∧ Below w.heap.size w w' := by
  have hby : ∀ x ∈ l1, 0 ≤ x ∧ x ≤ 255 := fun x hx => bounds_u8 (hw x hx)
  clear hw w0
  replace hC := Aside0.mk hC
  by_cases g1 : 3000 < l1.length
  · have k1 : decide ((3000 : Int) < (l1.length : Int)) = true := decide_eq_true (by omega)
    go_enter Try.func4, Try.ntmps4
    go_wp2_with fail
    refine (alive_walk _).mono ?_
    rintro e w1 ⟨rfl, hb1⟩
    go_wp2_with fail
    refine (alive_walk _).mono ?_
    rintro e w2 ⟨rfl, hb2⟩
    go_wp2
    go_ret
    exact ⟨rfl, hb1.trans (hb2.mono hb1.size)⟩
  have k1 : decide ((3000 : Int) < (l1.length : Int)) = false := decide_eq_false (by omega)
  obtain ⟨m, hm, m4, m5⟩ := most_in a0
  replace hm := Aside0.mk hm
  go_enter Try.func4, Try.ntmps4
  go_wp2_with fail
  refine (alive_walk _).mono ?_
  rintro e w1 ⟨rfl, hb1⟩
  replace hb1 := Aside0.mk hb1
  go_wp2_with fail
  refine (passepartoutlaw17_most.calls a0 m _ hm.out).mono ?_
  rintro e w2 ⟨rfl, hb2⟩
  replace hb2 := Aside0.mk (hb1.out.trans (hb2.mono hb1.out.size))
  clear hb1
  go_wp2_with fail
  refine (New_ok m _ m4 (by omega)).mono ?_
  rintro e w3 ⟨rfl, hw3⟩
  have hI3 := New_is m w2 w.heap.size hb2.out.size
  have hb3 := hb2.out.alloc hb2.out.size (.cells #[.int .i64 m, .slice none 0 0, .slice none 0 0, .int .i64 0, .int .i64 0, .int .i64 0, .int .i64 0] 57)
  rw [hw3] at hI3 hb3
  have hF3 : Kd.F (Kd.int .u8) w3 (fun k => k < w.heap.size) A1 l1.length l1 := Kd.F_step (Kd.C_F (Kd.heap_int _) hC.out) (fun k hk _ => hb3.block k hk)
  clear hw3 hb2
  replace hI3 := Aside0.mk hI3
  replace hb3 := Aside0.mk hb3
  replace hF3 := Aside0.mk hF3
  obtain ⟨R, hR⟩ : ∃ R, feed (hand0 m) (zipAt l1 0) = R := ⟨_, rfl⟩
  have hput := Put_law w w2.heap.size w.heap.size _ _ (hand0 m) 0 A1 c1 l1 (fun k => k < w.heap.size) w3 hI3.out hb3.out hF3.out hc (fun k hk h => by have := hI3.out.lowAll h; omega) hby (by decide) (by omega) (by show 0 + l1.length ≤ _; omega)
  have hall : WholeOk m l1 R.1 R.2 := by rw [← hR]; exact whole_ok m4 (fun x hx => (hby x hx).1)
  rw [hR] at hput
  obtain ⟨R1, R2⟩ := R
  clear hR
  replace hput := Aside0.mk hput
  replace hall := Aside0.mk hall
  go_wp2_with fail
  refine hput.out.mono ?_
  rintro e w4 ⟨A2, c2, vD, vS, rx, ry, rfl, hx, hy, hc2, hI4, hN4, hb4, -, -⟩
  replace hI4 := Aside0.mk hI4
  replace hb4 := Aside0.mk hb4
  have hC4 : Kd.C k37 w4 A2 R2.length (R2.map foundOf) := by have := (Kd.N_reads' hN4).2.2; rwa [List.length_map] at this
  replace hC4 := Aside0.mk hC4
  clear hI3 hb3 hF3 hput hN4
  go_wp2_with fail
  go_loopw [10, 42] (fun v10 v42 wr => ∃ j : Nat, v42 = .int .i64 (j : Int) ∧ v10 = .string (strOfNums ((R2.take j).map (·.1)).flatten) ∧ j ≤ R2.length ∧ Below w.heap.size w wr ∧ Below w4.heap.size w4 wr)
    (fun _ v42 _ => (R2.length : Int).toNat - (intOf v42).toNat)
  case atStart => exact ⟨0, rfl, rfl, Nat.zero_le _, hb4.out, Below.refl _ _⟩
  case round =>
    obtain ⟨j, rfl, rfl, hj, hbw, hbr⟩ := hrel
    replace hbw := Aside0.mk hbw
    replace hbr := Aside0.mk hbr
    by_cases hjl : j < R2.length
    · have k2 : decide ((j : Int) < (R2.length : Int)) = true := decide_eq_true (by omega)
      obtain ⟨ad, A5, c5, A6, c6, rfl, z0, z1, hc5, hC5, hc6, hC6⟩ := at_T37 (Kd.C_below hC4.out hbr.out) (j : Int) (by omega) (by omega)
      obtain ⟨x, hxj⟩ : ∃ x, R2[j]? = some x := ⟨_, List.getElem?_eq_getElem hjl⟩
      have hrd : rd_T37 (R2.map foundOf) (j : Int) = foundOf x := by simp [rd_T37, hxj]
      simp only [hrd, foundOf, Int.toNat_natCast] at z0 z1 hc5 hC5 hc6 hC6
      clear hrd
      obtain ⟨q4, qm, ql, qo, qp⟩ := hall.out.msgs j x hxj
      have hxj := Aside0.mk hxj
      obtain ⟨x1, x2⟩ := x
      simp only at z0 z1 hc5 hC5 hc6 hC6 q4 qm ql qo qp
      obtain ⟨sj, hsj⟩ : ∃ s, strOfNums ((R2.take j).map (·.1)).flatten = s := ⟨_, rfl⟩
      have hsz : ((((R2.take j).map (·.1)).flatten.length : Nat) : Int) = (sj.size : Int) := by rw [← hsj, strOfNums_size]
      have hin : ∀ p ∈ x2, 0 ≤ p ∧ p ≤ 5000000000000 := fun p hp => by
        rw [qp] at hp
        have := mem_upFrom hp
        omega
      have hlen2 : x2.length = x1.length := by rw [qp, upFrom_length]
      have hne2 : x2 ≠ [] := fun e => by rw [e] at hlen2; simp at hlen2; omega
      have hsl := segL_len x2
      have hpl : ∀ W, Below wr.heap.size wr W → Calls Try.prog 14 #[.agg #[.slice A5 x1.length c5, .slice A6 (segL x2).length c6], .int .i64 0] W fun e w' => e = .returned (.int .i64 (sj.size : Int)) ∧ Below W.heap.size W w' := fun W hW => by
        refine (Place_calls A5 A6 x1.length c5 c6 (segL x2) 0 W (segL_ne hne2) (Kd.C_below hC6 hW) hc6 (by omega) (by omega) (segL_ok hin (by omega)) (by omega)).mono ?_
        rintro e w' ⟨rfl, hb⟩
        refine ⟨?_, hb⟩
        rw [place_first hne2, qp, upFrom_get _ _ 0 (by omega), hsz]
        simp
      replace hpl := Aside0.mk hpl
      replace hC5 := Aside0.mk hC5
      replace hsj := Aside0.mk hsj
      replace hsz := Aside0.mk hsz
      clear hC6 qp hin hlen2 hne2
      obtain ⟨dl, hdl⟩ : ∃ n, x1.length = n := ⟨_, rfl⟩
      obtain ⟨sl, hsl2⟩ : ∃ n, (segL x2).length = n := ⟨_, rfl⟩
      rw [hdl] at z0 hpl q4 qm ql hC5 hc5
      rw [hsl2] at z1 hpl hc6
      rw [hsj.out]
      replace hdl := Aside0.mk hdl
      replace hsl2 := Aside0.mk hsl2
      clear hsl
      go_wp2_with fail
      obtain ⟨gx, hgxe⟩ : ∃ n, wr.heap.size = n := ⟨_, rfl⟩
      have hX5 := heap_at wr (.cells #[.slice A5 dl c5, .slice A6 sl c6] 37) wr.heap.size rfl
      have hB5 := (Below.refl wr.heap.size wr).alloc (Nat.le_refl _) (.cells #[.slice A5 dl c5, .slice A6 sl c6] 37)
      have hlt : wr.heap.size < (wr.alloc (.cells #[.slice A5 dl c5, .slice A6 sl c6] 37)).heap.size := by rw [World.size_alloc]; omega
      obtain ⟨v0, v1⟩ := cells2F (W := (wr.alloc (.cells #[.slice A5 dl c5, .slice A6 sl c6] 37)).drew) hX5
      have hgx : wr.heap.size < (wr.alloc (.cells #[.slice A5 dl c5, .slice A6 sl c6] 37)).drew.heap.size := hlt
      have hBz : Aside0 (Below wr.heap.size wr (wr.alloc (.cells #[.slice A5 dl c5, .slice A6 sl c6] 37)).drew) := Aside0.mk (below_drew hB5)
      obtain ⟨wa, hwa⟩ : ∃ wa, wr.alloc (.cells #[.slice A5 dl c5, .slice A6 sl c6] 37) = wa := ⟨_, rfl⟩
      rw [hwa] at v0 v1 hgx hBz ⊢
      rw [hgxe] at hpl v0 v1 hgx hBz ⊢
      have e0 : decide ((dl : Int) < 4) = false := decide_eq_false (by omega)
      have e1 : decide (m < (dl : Int)) = false := decide_eq_false (by omega)
      clear hX5 hB5 hlt hwa
      refine start_ (n := 19) (S := fun w' => w'.cell? ⟨gx, 0, none⟩ = some (.slice A5 dl c5) ∧ w'.cell? ⟨gx, 1, none⟩ = some (.slice A6 sl c6)) (ds := []) #[false, false, false, false, false, false, false, false, false, false, false, false, false, false, false, false, false, false, false] (by kernel_rfl) rfl rfl ⟨v0, v1⟩ (fun hHeld => ?_); refine with_tabW HandWhole.tab11 HandWhole.bits11 (fun HT_ HW_ => ?_)
      generalize (wa).drew = wz at hBz hgx hHeld ⊢
      refine pure_ (i := 0) (N := some 46) (v := ?_) (a' := ?_) #[true, false, false, false, false, false, false, false, false, false, false, false, false, false, false, false, false, false, false] rfl rfl (any_of HT_.out (by kernel_rfl)) (fun _ _ _ h => h) (Or.inl ⟨by rfl, ?_⟩) ?_ ?_
      rotate_left
      · intro w'
        go_simp
        with_reducible rfl
      rotate_left
      · simp only [Act.put, List.setIfInBounds_toArray, List.set_cons_zero, List.set_cons_succ, i64_w, i32_w]
        rfl
      refine take_ (i := 1) (N := some 47) (v := ?_) (a' := ?_) #[true, true, false, false, false, false, false, false, false, false, false, false, false, false, false, false, false, false, false] rfl rfl (take_ofW HT_.out HW_.out (by kernel_rfl)) (fun _ _ _ h => h) (Or.inl ⟨by rfl, ?_⟩) hHeld ?_ ?_
      rotate_left
      · rintro w' ⟨s0, s1⟩
        go_simp
        with_reducible rfl
      rotate_left
      · simp only [Act.put, List.setIfInBounds_toArray, List.set_cons_zero, List.set_cons_succ, i64_w, i32_w]
        rfl
      refine pure_ (i := 2) (N := some 48) (v := ?_) (a' := ?_) #[true, true, true, false, false, false, false, false, false, false, false, false, false, false, false, false, false, false, false] rfl rfl (any_of HT_.out (by kernel_rfl)) (fun _ _ _ h => h) (Or.inl ⟨by rfl, ?_⟩) ?_ ?_
      rotate_left
      · intro w'
        go_simp
        with_reducible rfl
      rotate_left
      · simp only [Act.put, List.setIfInBounds_toArray, List.set_cons_zero, List.set_cons_succ, i64_w, i32_w]
        rfl
      refine pure_ (i := 3) (N := some 49) (v := ?_) (a' := ?_) #[true, true, true, true, false, false, false, false, false, false, false, false, false, false, false, false, false, false, false] rfl rfl (any_of HT_.out (by kernel_rfl)) (fun _ _ _ h => h) (Or.inl ⟨by rfl, ?_⟩) ?_ ?_
      rotate_left
      · intro w'
        go_simp
        with_reducible rfl
      rotate_left
      · simp only [Act.put, List.setIfInBounds_toArray, List.set_cons_zero, List.set_cons_succ, i64_w, i32_w]
        rfl
      refine pure_ (i := 4) (N := some 50) (v := ?_) (a' := ?_) #[true, true, true, true, true, false, false, false, false, false, false, false, false, false, false, false, false, false, false] rfl rfl (any_of HT_.out (by kernel_rfl)) (fun _ _ _ h => h) (Or.inl ⟨by rfl, ?_⟩) ?_ ?_
      rotate_left
      · intro w'
        go_simp
        with_reducible rfl
      rotate_left
      · simp only [Act.put, List.setIfInBounds_toArray, List.set_cons_zero, List.set_cons_succ, i64_w, i32_w]
        rfl
      refine pure_ (i := 5) (N := some 51) (v := ?_) (a' := ?_) #[true, true, true, true, true, true, false, false, false, false, false, false, false, false, false, false, false, false, false] rfl rfl (any_of HT_.out (by kernel_rfl)) (fun _ _ _ h => h) (Or.inl ⟨by rfl, ?_⟩) ?_ ?_
      rotate_left
      · intro w'
        go_simp
        with_reducible rfl
      rotate_left
      · simp only [Act.put, List.setIfInBounds_toArray, List.set_cons_zero, List.set_cons_succ, i64_w, i32_w]
        rfl
      refine pure_ (i := 8) (N := some 54) (v := ?_) (a' := ?_) #[true, true, true, true, true, true, false, false, true, false, false, false, false, false, false, false, false, false, false] rfl rfl (any_of HT_.out (by kernel_rfl)) (fun _ _ _ h => h) (Or.inl ⟨by rfl, ?_⟩) ?_ ?_
      rotate_left
      · intro w'
        go_simp
        with_reducible rfl
      rotate_left
      · simp only [Act.put, List.setIfInBounds_toArray, List.set_cons_zero, List.set_cons_succ, i64_w, i32_w]
        rfl
      refine take_ (i := 6) (N := some 52) (v := ?_) (a' := ?_) #[true, true, true, true, true, true, true, false, true, false, false, false, false, false, false, false, false, false, false] rfl rfl (take_ofW HT_.out HW_.out (by kernel_rfl)) (fun _ _ _ h => h) (Or.inl ⟨by rfl, ?_⟩) hHeld ?_ ?_
      rotate_left
      · rintro w' ⟨s0, s1⟩
        go_simp
        with_reducible rfl
      rotate_left
      · simp only [Act.put, List.setIfInBounds_toArray, List.set_cons_zero, List.set_cons_succ, i64_w, i32_w]
        rfl
      refine pure_ (i := 7) (N := some 53) (v := ?_) (a' := ?_) #[true, true, true, true, true, true, true, true, true, false, false, false, false, false, false, false, false, false, false] rfl rfl (any_of HT_.out (by kernel_rfl)) (fun _ _ _ h => h) (Or.inl ⟨by rfl, ?_⟩) ?_ ?_
      rotate_left
      · intro w'
        go_simp
        with_reducible rfl
      rotate_left
      · simp only [Act.put, List.setIfInBounds_toArray, List.set_cons_zero, List.set_cons_succ, i64_w, i32_w]
        rfl
      refine one_ (i := 9) (N := some 55) #[true, true, true, true, true, true, true, true, true, true, false, false, false, false, false, false, false, false, false] rfl rfl (one_of HT_.out (by kernel_rfl)) (by decide) (fun K hK => ?_)
      refine goes_ Try.func11 (by kernel_rfl) rfl #[.int .i64 a0] (by rfl) rfl rfl (by simp only [List.map_toArray, List.map_cons, List.map_nil]; rfl) ?_
      with_reducible refine (passepartoutlaw17_most.calls a0 m _ hm.out).mono ?_
      rintro e wA ⟨rfl, hbA⟩
      refine ⟨_, rfl, ?_⟩
      have hgA := Nat.lt_of_lt_of_le hgx hbA.size
      refine hK.out _ _ ⟨(hbA.cell (p := ⟨gx, 0, none⟩) hgx).trans hHeld.1, (hbA.cell (p := ⟨gx, 1, none⟩) hgx).trans hHeld.2⟩ (fun hHeld => ?_)
      clear hK K
      refine norm_ (a' := ?_) ?_ ?_
      rotate_left
      · show Act.put _ (some 55) _ = _
        simp only [Act.put, List.setIfInBounds_toArray, List.set_cons_zero, List.set_cons_succ, i64_w, i32_w]
        rfl
      refine pure_ (i := 10) (N := some 56) (v := ?_) (a' := ?_) #[true, true, true, true, true, true, true, true, true, true, true, false, false, false, false, false, false, false, false] rfl rfl (any_of HT_.out (by kernel_rfl)) (fun _ _ _ h => h) (Or.inl ⟨by rfl, ?_⟩) ?_ ?_
      rotate_left
      · intro w'
        go_simp
        with_reducible rfl
      rotate_left
      · simp only [Act.put, List.setIfInBounds_toArray, List.set_cons_zero, List.set_cons_succ, i64_w, i32_w]
        rfl
      refine pure_ (i := 11) (N := some 57) (v := ?_) (a' := ?_) #[true, true, true, true, true, true, true, true, true, true, true, true, false, false, false, false, false, false, false] rfl rfl (any_of HT_.out (by kernel_rfl)) (fun _ _ _ h => h) (Or.inl ⟨by rfl, ?_⟩) ?_ ?_
      rotate_left
      · intro w'
        go_simp
        with_reducible rfl
      rotate_left
      · simp only [Act.put, List.setIfInBounds_toArray, List.set_cons_zero, List.set_cons_succ, i64_w, i32_w]
        rfl
      refine pure_ (i := 12) (N := some 58) (v := ?_) (a' := ?_) #[true, true, true, true, true, true, true, true, true, true, true, true, true, false, false, false, false, false, false] rfl rfl (any_of HT_.out (by kernel_rfl)) (fun _ _ _ h => h) (Or.inl ⟨by rfl, ?_⟩) ?_ ?_
      rotate_left
      · intro w'
        go_simp
        with_reducible rfl
      rotate_left
      · simp only [Act.put, List.setIfInBounds_toArray, List.set_cons_zero, List.set_cons_succ, i64_w, i32_w]
        rfl
      refine pure_ (i := 15) (N := some 61) (v := ?_) (a' := ?_) #[true, true, true, true, true, true, true, true, true, true, true, true, true, false, false, true, false, false, false] rfl rfl (any_of HT_.out (by kernel_rfl)) (fun _ _ _ h => h) (Or.inl ⟨by rfl, ?_⟩) ?_ ?_
      rotate_left
      · intro w'
        go_simp
        with_reducible rfl
      rotate_left
      · simp only [Act.put, List.setIfInBounds_toArray, List.set_cons_zero, List.set_cons_succ, i64_w, i32_w]
        rfl
      refine pure_ (i := 16) (N := some 62) (v := ?_) (a' := ?_) #[true, true, true, true, true, true, true, true, true, true, true, true, true, false, false, true, true, false, false] rfl rfl (any_of HT_.out (by kernel_rfl)) (fun _ _ _ h => h) (Or.inl ⟨by rfl, ?_⟩) ?_ ?_
      rotate_left
      · intro w'
        go_simp
        with_reducible rfl
      rotate_left
      · simp only [Act.put, List.setIfInBounds_toArray, List.set_cons_zero, List.set_cons_succ, i64_w, i32_w]
        rfl
      refine take_ (i := 13) (N := some 59) (v := ?_) (a' := ?_) #[true, true, true, true, true, true, true, true, true, true, true, true, true, true, false, true, true, false, false] rfl rfl (take_ofW HT_.out HW_.out (by kernel_rfl)) (fun _ _ _ h => h) (Or.inl ⟨by rfl, ?_⟩) hHeld ?_ ?_
      rotate_left
      · rintro w' ⟨s0, s1⟩
        go_simp
        with_reducible rfl
      rotate_left
      · simp only [Act.put, List.setIfInBounds_toArray, List.set_cons_zero, List.set_cons_succ, i64_w, i32_w]
        rfl
      refine one_ (i := 14) (N := some 60) #[true, true, true, true, true, true, true, true, true, true, true, true, true, true, true, true, true, false, false] rfl rfl (one_of HT_.out (by kernel_rfl)) (by decide) (fun K hK => ?_)
      refine goes_ Try.func14 (by kernel_rfl) rfl #[.agg #[.slice A5 dl c5, .slice A6 sl c6], .int .i64 0] (by rfl) rfl rfl (by simp only [List.map_toArray, List.map_cons, List.map_nil]; rfl) ?_
      with_reducible refine (hpl.out _ (hBz.out.trans (hbA.mono (Nat.le_of_lt hgx)))).mono ?_
      rintro e wB ⟨rfl, hbB⟩
      refine ⟨_, rfl, ?_⟩
      refine hK.out _ _ ⟨(hbB.cell (p := ⟨gx, 0, none⟩) hgA).trans hHeld.1, (hbB.cell (p := ⟨gx, 1, none⟩) hgA).trans hHeld.2⟩ (fun hHeld => ?_)
      clear hK K
      refine norm_ (a' := ?_) ?_ ?_
      rotate_left
      · show Act.put _ (some 60) _ = _
        simp only [Act.put, List.setIfInBounds_toArray, List.set_cons_zero, List.set_cons_succ, i64_w, i32_w]
        rfl
      refine pure_ (i := 17) (N := some 63) (v := ?_) (a' := ?_) #[true, true, true, true, true, true, true, true, true, true, true, true, true, true, true, true, true, true, false] rfl rfl (any_of HT_.out (by kernel_rfl)) (fun _ _ _ h => h) (Or.inl ⟨by rfl, ?_⟩) ?_ ?_
      rotate_left
      · intro w'
        go_simp
        with_reducible rfl
      rotate_left
      · simp only [Act.put, List.setIfInBounds_toArray, List.set_cons_zero, List.set_cons_succ, i64_w, i32_w]
        rfl
      refine pure_ (i := 18) (N := some 64) (v := ?_) (a' := ?_) #[true, true, true, true, true, true, true, true, true, true, true, true, true, true, true, true, true, true, true] rfl rfl (any_of HT_.out (by kernel_rfl)) (fun _ _ _ h => h) (Or.inl ⟨by rfl, ?_⟩) ?_ ?_
      rotate_left
      · intro w'
        go_simp
        with_reducible rfl
      rotate_left
      · simp only [Act.put, List.setIfInBounds_toArray, List.set_cons_zero, List.set_cons_succ, i64_w, i32_w]
        rfl
      refine done_ (done_of HT_.out (by kernel_rfl)) ?_
      have hbT := (hBz.out.trans (hbA.mono (Nat.le_of_lt hgx))).trans (hbB.mono (Nat.le_trans (Nat.le_of_lt hgx) hbA.size))
      have hs1 := run_string wB A5 dl c5 x1 (Kd.C_below hC5.out (by rw [hgxe]; exact hbT))
      have hb6 : Below wr.heap.size wr wB := by rw [hgxe]; exact hbT
      obtain ⟨sx, hsx⟩ : ∃ s, strOfNums x1 = s := ⟨_, rfl⟩
      rw [hsx] at hs1
      have hsxz : sx.size = dl := by rw [← hsx, strOfNums_size, hdl.out]
      have hss : ¬ 9223372036854775807 < sj.size + sx.size := by have := hsz.out; omega
      have hnx : sj ++ sx = strOfNums ((R2.take (j + 1)).map (·.1)).flatten := by
        rw [List.take_add_one, hxj.out, ← hsj.out, ← hsx, List.map_append, List.flatten_append, strOfNums_append]
        simp
      replace hsx := Aside0.mk hsx
      replace hsxz := Aside0.mk hsxz
      replace hnx := Aside0.mk hnx
      replace hb6 := Aside0.mk hb6
      clear hpl hBz hbA hbB hbT
      have hRb : R2.length ≤ 9223372036854775807 := hC4.out.2.1
      go_wp2
      go_roundw
      case rel => exact ⟨j + 1, rfl, congrArg Value.string hnx.out, by omega, hbw.out.trans (hb6.out.mono hbw.out.size), hbr.out.trans (hb6.out.mono hbr.out.size)⟩
      case measure => simp [intOf]; omega
    · have k2 : decide ((j : Int) < (R2.length : Int)) = false := decide_eq_false (by omega)
      obtain rfl : j = R2.length := by omega
      obtain ⟨a1, a2, a3, a4⟩ : _ ∧ _ ∧ _ ∧ _ := ⟨hall.out.pre, hall.out.le, hall.out.bad, hall.out.good⟩
      rw [List.take_length]
      obtain ⟨sa, hsa⟩ : ∃ s, strOfNums (R2.map (·.1)).flatten = s := ⟨_, rfl⟩
      have hsz : (R2.map (·.1)).flatten.length = sa.size := by rw [← hsa, strOfNums_size]
      rw [hsz] at a1 a2 a3 a4
      have hs2 := run_string wr A1 sa.size c1 (l1.take sa.size) (C_take (Kd.C_below hC.out hbw.out) a2)
      rw [← a1, hsa] at hs2
      have k3 : decide ((l1.length : Int) < (sa.size : Int)) = false := decide_eq_false (by omega)
      have k4 : (sa.size : Int) ≤ (c1 : Int) := by omega
      have k5 : (0 : Int) ≤ (sa.size : Int) := by omega
      replace hsa := Aside0.mk hsa
      clear a1 hsz
      rw [hsa.out]
      by_cases he : R1.err = 0
      · obtain rfl : ry = 0 := hy.out.trans he
        obtain ⟨b1, b2⟩ := a4 he
        clear a3 a4 he
        have hH : HandIs wr w.heap.size w2.heap.size vD vS R1 := hI4.out.keep (fun k _ hlt => hbr.out.block k hlt)
        replace hH := Aside0.mk hH
        have k7 : ((sa.size : Int) + (R1.data.length : Int) == (l1.length : Int)) = true := beq_iff_eq.2 (by omega)
        have k8 : -9223372036854775808 ≤ (sa.size : Int) + (R1.data.length : Int) ∧ (sa.size : Int) + (R1.data.length : Int) ≤ 9223372036854775807 := by omega
        have k6 : decide ((R1.data.length : Int) < m) = true := decide_eq_true b2
        replace b1 := Aside0.mk b1
        go_wp2_with fail
        refine (Held_calls _ hH.out).mono ?_
        rintro e w5 ⟨rfl, rfl⟩
        go_wp2_with fail
        refine (Held_calls _ hH.out).mono ?_
        rintro e w5 ⟨rfl, rfl⟩
        go_wp2_with fail
        refine (passepartoutlaw17_most.calls a0 m _ hm.out).mono ?_
        rintro e w6 ⟨rfl, hb6⟩
        go_wp2
        go_ret
        exact ⟨rfl, hbw.out.trans (hb6.mono hbw.out.size)⟩
      · obtain ⟨b1, b2⟩ := a3 he
        have hrx : rx = (sa.size : Int) := by rw [hx.out, if_neg he, b1]
        rw [← hy.out] at b2
        subst hrx
        clear a3 a4 he
        rcases b2 with b2 | b2
        all_goals
          subst b2
          go_wp2
          go_ret
          exact ⟨rfl, hbw.out⟩

end Go.Proofs.Ytmdmllfbdpoeeaa
