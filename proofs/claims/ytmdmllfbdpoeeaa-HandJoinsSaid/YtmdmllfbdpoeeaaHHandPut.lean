/- The Go function hand.Hand.Put feeds the bytes of a piece, each with its place, to the machine of messages; the hand's cells hold what it says behind it; bytes and places are few enough. -/
import Derived.Test.YtmdmllfbdpoeeaaHHandE
import Derived.Deep.RegionLaw
import Derived.Deep.DeepCutAuto
import Derived.BigQuiet
import Derived.BigRegion
import Derived.IntWalk
namespace Go.Proofs.Ytmdmllfbdpoeeaa
open Go Go.RowKit Go.Maps Go.Proofs.Hand Go.Proofs.YtmdmllfbdpoeeaaW.PrintWords Go.Proofs.YtmdmllfbdpoeeaaW.PrintLast Go.Proofs.YtmdmllfbdpoeeaaW.PrintMore
set_option maxRecDepth 100000
set_option linter.unusedVariables false
set_option linter.unusedSimpArgs false

def Put.T8 : Bool × List (List Nat × List Nat) := (true, [([], []), ([], []), ([1], [1]), ([2], [2]), ([3], [3]), ([4], [4]), ([], []), ([6], [6]), ([7], [7]), ([8], [8]), ([9], [9]), ([10], [10]), ([], []), ([11, 12], [11, 12]), ([13], [13]), ([5, 14], [5, 14]), ([0, 0, 1, 2, 3, 4, 5, 6, 7, 8, 9, 10, 11, 12, 13, 14, 15], [0]), ([16, 0, 1, 2, 3, 4, 5, 6, 7, 8, 9, 10, 11, 12, 13, 14, 15], [16]), ([17, 0, 1, 2, 3, 4, 5, 6, 7, 8, 9, 10, 11, 12, 13, 14, 15], [17]), ([18, 15, 15, 0, 1, 2, 3, 4, 5, 6, 7, 8, 9, 10, 11, 12, 13, 14, 15], [15, 18])])
def Put.B8 : List Nat := [0, 0, 2, 6, 14, 30, 0, 64, 192, 448, 960, 1984, 0, 8128, 16320, 32766, 65535, 131071, 262143, 524287]
theorem Put.tab8 : rtab .any (opsOf Try.f12 8) = Put.T8 := by kernel_rfl
theorem Put.bits8 : waitsOk Put.T8.2 Put.B8 = true := by kernel_rfl
def Put.T11 : Bool × List (List Nat × List Nat) := (true, [([], []), ([], []), ([1], [1]), ([2], [2]), ([3], [3]), ([4], [4]), ([], []), ([], []), ([6, 7], [6, 7]), ([5, 8], [5, 8]), ([0, 0, 1, 2, 3, 4, 5, 6, 7, 8, 9], [0]), ([10, 0, 1, 2, 3, 4, 5, 6, 7, 8, 9], [10]), ([11, 0, 1, 2, 3, 4, 5, 6, 7, 8, 9], [11]), ([12, 9, 9, 0, 1, 2, 3, 4, 5, 6, 7, 8, 9], [9, 12])])
def Put.B11 : List Nat := [0, 0, 2, 6, 14, 30, 0, 0, 192, 510, 1023, 2047, 4095, 8191]
theorem Put.tab11 : rtab .any (opsOf Try.f12 11) = Put.T11 := by kernel_rfl
theorem Put.bits11 : waitsOk Put.T11.2 Put.B11 = true := by kernel_rfl
def Put.T22 : Bool × List (List Nat × List Nat) := (true, [([], []), ([], []), ([1], [1]), ([2], [2]), ([3], [3]), ([4], [4]), ([5], [5]), ([], []), ([7], [7]), ([8], [8]), ([9], [9]), ([10], [10]), ([11, 6], [11]), ([6, 12], [6, 12]), ([13], [13]), ([0, 14, 12], [0, 14]), ([15, 15, 0, 1, 2, 3, 4, 5, 6, 7, 8, 9, 10, 11, 12, 13, 14, 15], [0, 15])])
def Put.B22 : List Nat := [0, 0, 2, 6, 14, 30, 62, 0, 128, 384, 896, 1920, 4094, 8190, 16382, 32767, 65535]
theorem Put.tab22 : rtab .any (opsOf Try.f12 22) = Put.T22 := by kernel_rfl
theorem Put.bits22 : waitsOk Put.T22.2 Put.B22 = true := by kernel_rfl
set_option maxHeartbeats 8000000 in
theorem Put_calls (g B : Nat) (vD0 vS0 : Value) (s0 : HSt) (a : Int) (A : Option Addr) (c : Nat) (b : List Int) (okb : Nat → Prop) (w : World) (hH : HandIs w B g vD0 vS0 s0) (hC : Kd.F (Kd.int .u8) w okb A b.length b) (hc : b.length ≤ c) (hap : ∀ k, okb k → ¬ ownOf g vD0 vS0 k)
    (hby : ∀ x ∈ b, 0 ≤ x ∧ x ≤ 255) (h0 : 0 ≤ a) (hat : a + b.length ≤ 5000000000000) (hfew : s0.data.length + b.length ≤ 1000000) (herr : s0.err = 0) :
    Calls Try.prog 12 #[.pointer (some ⟨g, 0, none⟩), .int .i64 a, .slice A b.length c] w (PutPost w g B vD0 vS0 (feed s0 (zipAt b a))) := by
  have hP0 : PutAt w g B vD0 vS0 okb (feed s0 (zipAt b a)) (.slice none 0 0) w a A c b s0 vD0 vS0 [] := ⟨by rw [List.nil_append], herr, hH, Kd.N_nil _ _ _ _ _, Kp.refl _ _, fun k hk => .inl hk, Kd.F_bound hC, hc, hby, h0, hat, hfew, by rw [List.length_nil]; omega⟩
  replace hP0 := Aside0.mk hP0
  obtain ⟨need0, next0, hR0, hF0⟩ := hH
  obtain ⟨y0, y1, y2, y3, y4, y5, y6⟩ := cells7 hR0.blk
  have k6 : (s0.err != 0) = false := by simpa using herr
  clear hR0 hF0 hC herr h0 hat hfew hby
  generalize hRR : feed s0 (zipAt b a) = R at hP0 ⊢
  obtain ⟨R1, R2⟩ := R
  clear hRR
  go_enter Try.func12, Try.ntmps12
  go_wp2
  go_loopw [1, 2, 9] (fun v1 v2 v9 wr => ∃ a A c rest s vD vS outs, v1 = .int .i64 a ∧ v2 = .slice A rest.length c ∧ PutAt w g B vD0 vS0 okb (R1, R2) v9 wr a A c rest s vD vS outs)
    (fun _ v2 _ _ => lenOf v2)
  case atStart => exact ⟨_, _, _, _, _, _, _, _, rfl, rfl, hP0.out⟩
  case round =>
    clear y0 y1 y2 y3 y4 y5 y6 k6 hP0 hc a A c b
    obtain ⟨a, A, c, rest, s, vD, vS, outs, rfl, rfl, hP⟩ := hrel
    by_cases hz : rest = []
    · subst hz
      have hall := hP.all
      simp only [zipAt, feed, List.append_nil, Prod.mk.injEq] at hall
      obtain ⟨rfl, rfl⟩ := hall
      have he := Aside0.mk hP.err
      replace hP := Aside0.mk hP
      go_wp2
      go_ret3
      exact ⟨_, vD, vS, by rw [he.out]; rfl, hP.out.is, hP.out.out, hP.out.kept, hP.out.own⟩
    · have hpos : 0 < rest.length := List.length_pos_iff.2 hz
      have hmax : rest.length ≤ 1000000 := by have := hP.few; omega
      have hdat : s.data.length ≤ 1000000 := by have := hP.few; omega
      obtain ⟨need, next, hR, hF⟩ := hP.is
      obtain ⟨AD, cD, rfl, hcD⟩ := R_val hR.dat
      obtain ⟨AS, cS, rfl, hcS⟩ := R_val hR.seg
      have hsl := segL_len s.places
      rw [hF.len] at hsl
      obtain ⟨y0, y1, y2, y3, y4, y5, y6⟩ := cells7 hR.blk
      have f2 := live7 hR.blk 2
      replace hP := Aside0.mk hP
      have hRA := Aside0.mk hR
      have hFA := Aside0.mk hF
      have HB1 := Aside0.mk (Below.refl B wr)
      have hBs : B ≤ wr.heap.size := Nat.le_of_lt (Nat.lt_of_le_of_lt hR.low (hR.lt (.inl rfl)))
      replace hz := Aside0.mk hz
      clear hR hF
      obtain ⟨pB, hpB⟩ : ∃ pB : Bool, pB = ((s.data.length : Int) == 0 || (a != next)) := ⟨_, rfl⟩
      replace hpB := Aside0.mk hpB
      go_upto_region 7 with (fail)
      go_cut [47] (fun v wx => v = .bool pB ∧ wr = wx)
      case first =>
        --{
        cases e1 : ((s.data.length : Int) == 0)
        · cases e2 : (a != next)
          all_goals
            go_wp2
            go_meet
            exact ⟨by rw [hpB.out, e1, e2]; rfl, rfl⟩
        · go_wp2
          go_meet
          exact ⟨by rw [hpB.out, e1]; rfl, rfl⟩
        --}
      case rest =>
        obtain ⟨rfl, rfl⟩ := hcut
        go_upto_if 47 with (fail)
        go_cut [] (fun wx => ∃ vS1, HandRaw wx B g (.slice AD s.data.length cD) vS1 s.data (segL (s.places ++ upFrom a 1)) s.most need next s.eat s.err ∧ Kp wr wx (ownOf g (.slice AD s.data.length cD) (.slice AS (segL s.places).length cS)) ∧ ∀ k, ownOf g (.slice AD s.data.length cD) vS1 k → ownOf g (.slice AD s.data.length cD) (.slice AS (segL s.places).length cS) k ∨ wr.heap.size ≤ k)
        case first =>
          --{
          cases pB with
          | false =>
            go_wp2
            go_meet
            have hp := hpB.out
            simp only [Bool.false_eq, Bool.or_eq_false_iff, beq_eq_false_iff_ne, bne_eq_false_iff_eq] at hp
            have hl := hFA.out.next (fun e => hp.1 (by rw [e]; rfl))
            rw [← hp.2] at hl
            exact ⟨_, by rw [segL_old hl]; exact hRA.out, Kp.refl _ _, fun k hk => .inl hk⟩
          | true =>
            have hl : lastOr none s.places ≠ some (a - 1) := fun e => by
              have hp := hpB.out
              simp only [Bool.true_eq, Bool.or_eq_true, beq_iff_eq, bne_iff_ne] at hp
              rcases hp with hp | hp
              · have h1 := hFA.out.len
                rw [List.eq_nil_of_length_eq_zero (show s.places.length = 0 by omega)] at e
                cases e
              · by_cases h1 : s.data = []
                · have h2 := hFA.out.len
                  rw [h1] at h2
                  rw [List.eq_nil_of_length_eq_zero (show s.places.length = 0 by simpa using h2)] at e
                  cases e
                · rw [hFA.out.next h1] at e
                  have := Option.some.inj e
                  omega
            have hnew := Aside0.mk (segL_new hl)
            rw [hFA.out.len] at hnew
            clear hl
            have hRz := Aside0.mk (hRA.out.keep (W' := wr.drew) (fun _ _ _ => rfl))
            have HBz : Aside0 (Below B wr wr.drew) := Aside0.mk (below_drew (Below.refl B wr))
            have hKz : Aside0 (Kp wr wr.drew (ownOf g (.slice AD s.data.length cD) (.slice AS (segL s.places).length cS))) := Aside0.mk (Kp.refl _ _).drew
            have hBs2 : B ≤ wr.drew.heap.size := hBs
            go_wp2_with fail
            refine start_ (n := 20) (S := fun w' => w'.cell? ⟨g, 2, none⟩ = some (.slice AS (segL s.places).length cS) ∧ w'.cell? ⟨g, 1, none⟩ = some (.slice AD s.data.length cD)) (ds := [15, 19]) #[false, false, false, false, false, false, false, false, false, false, false, false, false, false, false, false, false, false, false, false] (by kernel_rfl) rfl rfl ⟨y2, y1⟩ (fun hHeld => ?_); refine with_tabW Put.tab8 Put.bits8 (fun HT_ HW_ => ?_)
            generalize wr.drew = wz at hRz HBz hKz hBs2 hHeld ⊢
            refine pure_ (i := 0) (N := some 48) (v := ?_) (a' := ?_) #[true, false, false, false, false, false, false, false, false, false, false, false, false, false, false, false, false, false, false, false] rfl rfl (any_of HT_.out (by kernel_rfl)) (fun _ _ _ h => h) (Or.inl ⟨by rfl, ?_⟩) ?_ ?_
            rotate_left
            · intro w'
              go_simp
              with_reducible rfl
            rotate_left
            · simp only [Act.put, List.setIfInBounds_toArray, List.set_cons_zero, List.set_cons_succ, i64_w, i32_w]
              rfl
            refine pure_ (i := 1) (N := some 49) (v := ?_) (a' := ?_) #[true, true, false, false, false, false, false, false, false, false, false, false, false, false, false, false, false, false, false, false] rfl rfl (any_of HT_.out (by kernel_rfl)) (fun _ _ _ h => h) (Or.inl ⟨by rfl, ?_⟩) ?_ ?_
            rotate_left
            · intro w'
              go_simp
              with_reducible rfl
            rotate_left
            · simp only [Act.put, List.setIfInBounds_toArray, List.set_cons_zero, List.set_cons_succ, i64_w, i32_w]
              rfl
            refine pure_ (i := 2) (N := some 50) (v := ?_) (a' := ?_) #[true, true, true, false, false, false, false, false, false, false, false, false, false, false, false, false, false, false, false, false] rfl rfl (any_of HT_.out (by kernel_rfl)) (fun _ _ _ h => h) (Or.inl ⟨by rfl, ?_⟩) ?_ ?_
            rotate_left
            · intro w'
              go_simp
              with_reducible rfl
            rotate_left
            · simp only [Act.put, List.setIfInBounds_toArray, List.set_cons_zero, List.set_cons_succ, i64_w, i32_w]
              rfl
            refine pure_ (i := 3) (N := some 51) (v := ?_) (a' := ?_) #[true, true, true, true, false, false, false, false, false, false, false, false, false, false, false, false, false, false, false, false] rfl rfl (any_of HT_.out (by kernel_rfl)) (fun _ _ _ h => h) (Or.inl ⟨by rfl, ?_⟩) ?_ ?_
            rotate_left
            · intro w'
              go_simp
              with_reducible rfl
            rotate_left
            · simp only [Act.put, List.setIfInBounds_toArray, List.set_cons_zero, List.set_cons_succ, i64_w, i32_w]
              rfl
            refine pure_ (i := 4) (N := some 52) (v := ?_) (a' := ?_) #[true, true, true, true, true, false, false, false, false, false, false, false, false, false, false, false, false, false, false, false] rfl rfl (any_of HT_.out (by kernel_rfl)) (fun _ _ _ h => h) (Or.inl ⟨by rfl, ?_⟩) ?_ ?_
            rotate_left
            · intro w'
              go_simp
              with_reducible rfl
            rotate_left
            · simp only [Act.put, List.setIfInBounds_toArray, List.set_cons_zero, List.set_cons_succ, i64_w, i32_w]
              rfl
            refine pure_ (i := 6) (N := some 54) (v := ?_) (a' := ?_) #[true, true, true, true, true, false, true, false, false, false, false, false, false, false, false, false, false, false, false, false] rfl rfl (any_of HT_.out (by kernel_rfl)) (fun _ _ _ h => h) (Or.inl ⟨by rfl, ?_⟩) ?_ ?_
            rotate_left
            · intro w'
              go_simp
              with_reducible rfl
            rotate_left
            · simp only [Act.put, List.setIfInBounds_toArray, List.set_cons_zero, List.set_cons_succ, i64_w, i32_w]
              rfl
            refine pure_ (i := 7) (N := some 55) (v := ?_) (a' := ?_) #[true, true, true, true, true, false, true, true, false, false, false, false, false, false, false, false, false, false, false, false] rfl rfl (any_of HT_.out (by kernel_rfl)) (fun _ _ _ h => h) (Or.inl ⟨by rfl, ?_⟩) ?_ ?_
            rotate_left
            · intro w'
              go_simp
              with_reducible rfl
            rotate_left
            · simp only [Act.put, List.setIfInBounds_toArray, List.set_cons_zero, List.set_cons_succ, i64_w, i32_w]
              rfl
            refine pure_ (i := 8) (N := some 56) (v := ?_) (a' := ?_) #[true, true, true, true, true, false, true, true, true, false, false, false, false, false, false, false, false, false, false, false] rfl rfl (any_of HT_.out (by kernel_rfl)) (fun _ _ _ h => h) (Or.inl ⟨by rfl, ?_⟩) ?_ ?_
            rotate_left
            · intro w'
              go_simp
              with_reducible rfl
            rotate_left
            · simp only [Act.put, List.setIfInBounds_toArray, List.set_cons_zero, List.set_cons_succ, i64_w, i32_w]
              rfl
            refine pure_ (i := 9) (N := some 57) (v := ?_) (a' := ?_) #[true, true, true, true, true, false, true, true, true, true, false, false, false, false, false, false, false, false, false, false] rfl rfl (any_of HT_.out (by kernel_rfl)) (fun _ _ _ h => h) (Or.inl ⟨by rfl, ?_⟩) ?_ ?_
            rotate_left
            · intro w'
              go_simp
              with_reducible rfl
            rotate_left
            · simp only [Act.put, List.setIfInBounds_toArray, List.set_cons_zero, List.set_cons_succ, i64_w, i32_w]
              rfl
            refine pure_ (i := 12) (N := some 60) (v := ?_) (a' := ?_) #[true, true, true, true, true, false, true, true, true, true, false, false, true, false, false, false, false, false, false, false] rfl rfl (any_of HT_.out (by kernel_rfl)) (fun _ _ _ h => h) (Or.inl ⟨by rfl, ?_⟩) ?_ ?_
            rotate_left
            · intro w'
              go_simp
              with_reducible rfl
            rotate_left
            · simp only [Act.put, List.setIfInBounds_toArray, List.set_cons_zero, List.set_cons_succ, i64_w, i32_w]
              rfl
            refine take_ (i := 5) (N := some 53) (v := ?_) (a' := ?_) #[true, true, true, true, true, true, true, true, true, true, false, false, true, false, false, false, false, false, false, false] rfl rfl (take_ofW HT_.out HW_.out (by kernel_rfl)) (fun _ _ _ h => h) (Or.inl ⟨by rfl, ?_⟩) hHeld ?_ ?_
            rotate_left
            · rintro w' ⟨s0, s1⟩
              go_simp
              with_reducible rfl
            rotate_left
            · simp only [Act.put, List.setIfInBounds_toArray, List.set_cons_zero, List.set_cons_succ, i64_w, i32_w]
              rfl
            refine take_ (i := 10) (N := some 58) (v := ?_) (a' := ?_) #[true, true, true, true, true, true, true, true, true, true, true, false, true, false, false, false, false, false, false, false] rfl rfl (take_ofW HT_.out HW_.out (by kernel_rfl)) (fun _ _ _ h => h) (Or.inl ⟨by rfl, ?_⟩) hHeld ?_ ?_
            rotate_left
            · rintro w' ⟨s0, s1⟩
              go_simp
              with_reducible rfl
            rotate_left
            · simp only [Act.put, List.setIfInBounds_toArray, List.set_cons_zero, List.set_cons_succ, i64_w, i32_w]
              rfl
            refine pure_ (i := 11) (N := some 59) (v := ?_) (a' := ?_) #[true, true, true, true, true, true, true, true, true, true, true, true, true, false, false, false, false, false, false, false] rfl rfl (any_of HT_.out (by kernel_rfl)) (fun _ _ _ h => h) (Or.inl ⟨by rfl, ?_⟩) ?_ ?_
            rotate_left
            · intro w'
              go_simp
              with_reducible rfl
            rotate_left
            · simp only [Act.put, List.setIfInBounds_toArray, List.set_cons_zero, List.set_cons_succ, i64_w, i32_w]
              rfl
            refine pure_ (i := 13) (N := some 61) (v := ?_) (a' := ?_) #[true, true, true, true, true, true, true, true, true, true, true, true, true, true, false, false, false, false, false, false] rfl rfl (any_of HT_.out (by kernel_rfl)) (fun _ _ _ h => h) (Or.inl ⟨by rfl, ?_⟩) ?_ ?_
            rotate_left
            · intro w'
              go_simp
              with_reducible rfl
            rotate_left
            · simp only [Act.put, List.setIfInBounds_toArray, List.set_cons_zero, List.set_cons_succ, i64_w, i32_w]
              rfl
            refine one_ (i := 14) (N := some 62) #[true, true, true, true, true, true, true, true, true, true, true, true, true, true, true, false, false, false, false, false] rfl rfl (one_of HT_.out (by kernel_rfl)) (by decide) (fun K hK => ?_)
            refine value_ (w1 := ?_) (v := ?_) (by rfl) rfl ?_ ?_
            rotate_left 2
            · go_simp
              constructor
              · rfl
              · rfl
            refine hK.out _ _ ⟨(World.cell?_alloc_lt _ _ _ (World.block_lt_of_cell? _ _ hHeld.1)).trans hHeld.1, (World.cell?_alloc_lt _ _ _ (World.block_lt_of_cell? _ _ hHeld.2)).trans hHeld.2⟩ (fun hHeld => ?_)
            clear hK K
            refine norm_ (a' := ?_) ?_ ?_
            rotate_left
            · show Act.put _ (some 62) _ = _
              simp only [Act.put, List.setIfInBounds_toArray, List.set_cons_zero, List.set_cons_succ, i64_w, i32_w]
              rfl
            refine last_ (i := 15) (N := some 63) #[true, true, true, true, true, true, true, true, true, true, true, true, true, true, true, true, false, false, false, false] rfl rfl (one_of HT_.out (by kernel_rfl)) (by decide) (fun K hK => ?_)
            refine Kd.R_append_step k39 (w0 := wr) B (by rfl) (.tmp 53) (.tmp 62) 35 39 (.agg #[.int .i64 0, .int .i64 0]) 16 rfl Try.underlying35 segInfo rfl (by decide) (by decide) (.slice AS (segL s.places).length cS) (segL s.places) (⟨(s.data.length : Int), a⟩ : S39) [.int .i64 (s.data.length : Int), .int .i64 a] (fun _ => True) (fun _ => False) rfl rfl (seg_M _ _) (fun _ hk => hk.elim) (fun _ _ => trivial) (Kd.R_mono hRz.out.seg (fun _ _ => trivial)) HBz.out hBs2 (by omega) ?_
            intro v3 w3 hR3 hB3 hg3 hat3
            obtain ⟨A3, n3, c3, rfl⟩ := R_val3 hR3
            have hX3 := Aside0.mk ((hg3.block g (hRz.out.lt (.inl rfl)) hRz.out.sg).trans hRz.out.blk)
            obtain ⟨-, -, z2, -, -, -, -⟩ := cells7 hX3.out
            have zf := live7 hX3.out 2
            have hP3 := Aside0.mk (hRz.out.putS hR3 hg3 hat3)
            clear hR3 hB3 hg3 hat3
            refine hK.out _ _ ?_
            clear hK K
            refine norm_ (a' := ?_) ?_ ?_
            rotate_left
            · show Act.put _ (some 63) _ = _
              simp only [Act.put, List.setIfInBounds_toArray, List.set_cons_zero, List.set_cons_succ, i64_w, i32_w]
              rfl
            refine pure_ (i := 16) (N := some 64) (v := ?_) (a' := ?_) #[true, true, true, true, true, true, true, true, true, true, true, true, true, true, true, true, true, false, false, false] rfl rfl (any_of HT_.out (by kernel_rfl)) (fun _ _ _ h => h) (Or.inl ⟨by rfl, ?_⟩) ?_ ?_
            rotate_left
            · intro w'
              go_simp
              with_reducible rfl
            rotate_left
            · simp only [Act.put, List.setIfInBounds_toArray, List.set_cons_zero, List.set_cons_succ, i64_w, i32_w]
              rfl
            refine pure_ (i := 17) (N := some 65) (v := ?_) (a' := ?_) #[true, true, true, true, true, true, true, true, true, true, true, true, true, true, true, true, true, true, false, false] rfl rfl (any_of HT_.out (by kernel_rfl)) (fun _ _ _ h => h) (Or.inl ⟨by rfl, ?_⟩) ?_ ?_
            rotate_left
            · intro w'
              go_simp
              with_reducible rfl
            rotate_left
            · simp only [Act.put, List.setIfInBounds_toArray, List.set_cons_zero, List.set_cons_succ, i64_w, i32_w]
              rfl
            refine pure_ (i := 18) (N := some 66) (v := ?_) (a' := ?_) #[true, true, true, true, true, true, true, true, true, true, true, true, true, true, true, true, true, true, true, false] rfl rfl (any_of HT_.out (by kernel_rfl)) (fun _ _ _ h => h) (Or.inl ⟨by rfl, ?_⟩) ?_ ?_
            rotate_left
            · intro w'
              go_simp
              with_reducible rfl
            rotate_left
            · simp only [Act.put, List.setIfInBounds_toArray, List.set_cons_zero, List.set_cons_succ, i64_w, i32_w]
              rfl
            refine last_ (i := 19) (N := none) #[true, true, true, true, true, true, true, true, true, true, true, true, true, true, true, true, true, true, true, true] rfl rfl (one_of HT_.out (by kernel_rfl)) (by decide) (fun K hK => ?_)
            refine skip_ (w1 := ?_) (by rfl) rfl ?_ ?_
            rotate_left
            · go_simp
              rfl
            refine hK.out _ _ ?_
            clear hK K
            refine done_ (done_of HT_.out (by kernel_rfl)) ?_
            try go_wp2
            go_meet
            exact ⟨_, by rw [hnew.out]; exact hP3.out.1, hKz.out.then_ hP3.out.2.1 (fun k hk => .inl hk), fun k hk => (hP3.out.2.2 k hk).imp id (fun h => Nat.le_trans hKz.out.1 h)⟩
          --}
        case rest =>
          obtain ⟨vS1, hR1, hK1, hO1⟩ := hcut
          obtain ⟨AS1, nS1, cS1, rfl⟩ := R_val3 hR1.seg
          clear y0 y1 y2 y3 y4 y5 y6 f2 hRA HB1 hBs hpB
          have hnd := need_le hFA.out.byte
          have hnb : 4 ≤ s.data.length → need ≤ 16777219 ∧ (s.data.length : Int) < need := fun h => by
            have := hFA.out.need h
            omega
          obtain ⟨nn, hn1, hn2, hnA, hnB⟩ : ∃ nn : Nat, 0 < nn ∧ nn ≤ rest.length ∧ Aside0 (s.data.length < 4 → nn = min rest.length (4 - s.data.length)) ∧ Aside0 (4 ≤ s.data.length → (nn : Int) = min (rest.length : Int) (need - s.data.length)) := by
            by_cases h4 : s.data.length < 4
            · exact ⟨min rest.length (4 - s.data.length), by omega, by omega, ⟨fun _ => rfl⟩, ⟨fun h => by omega⟩⟩
            · have hq := hnb (by omega)
              exact ⟨(min (rest.length : Int) (need - s.data.length)).toNat, by omega, by omega, ⟨fun h => by omega⟩, ⟨fun h => by omega⟩⟩
          replace hR1 := Aside0.mk hR1
          replace hnd := Aside0.mk hnd
          replace hnb := Aside0.mk hnb
          go_upto_region 9 with (fail)
          go_cut [10] (fun v wx => v = .int .i64 (nn : Int) ∧ ∃ m, wx = wc.drewN m)
          case first =>
            --{
            by_cases h4 : s.data.length < 4
            · have en : (nn : Int) = min (rest.length : Int) (4 - (s.data.length : Int)) := by have := hnA.out h4; omega
              replace en := Aside0.mk en
              go_wp2_with (first
                | (go_at_call 21; refine (want_lo g s.data.length cD AD s.most need next s.eat s.err _ _ hR1.out.blk h4).mono ?_; rintro e w1 ⟨rfl, rfl⟩))
              go_meet
              exact ⟨congrArg (fun z => Value.int .i64 z) en.out.symm, 0, rfl⟩
            · have en := Aside0.mk (hnB.out (by omega))
              have hq := hnb.out (by omega)
              go_wp2_with (first
                | (go_at_call 21; refine (want_hi g s.data.length cD AD s.most need next s.eat s.err _ _ hR1.out.blk (by omega) (by omega) (by omega)).mono ?_; rintro e w1 ⟨rfl, m, rfl⟩))
              go_meet
              exact ⟨congrArg (fun z => Value.int .i64 z) en.out.symm, m, rfl⟩
            --}
          case rest =>
            obtain ⟨rfl, m, rfl⟩ := hcut
            have hR2 := Aside0.mk (hR1.out.keep (W' := wc.drewN m) (fun _ _ _ => by simp))
            have hK2 : Aside0 (Kp wr (wc.drewN m) (ownOf g (.slice AD s.data.length cD) (.slice AS (segL s.places).length cS))) := Aside0.mk (hK1.drewN m)
            have hsz2 : wr.heap.size ≤ (wc.drewN m).heap.size := hK2.out.1
            clear hR1 hK1
            generalize wc.drewN m = wd at hR2 hK2 hsz2 ⊢
            obtain ⟨x0, x1, x2, x3, x4, x5, x6⟩ := cells7 hR2.out.blk
            have hF2 := hP.out.rowKept hap hK2.out
            obtain ⟨ad, rfl, -⟩ := (Kd.F_now hF2).2.2 hpos
            have hT2 : (Kd.int .u8).C wd (some ad) nn (rest.take nn) := by
              have := Kd.F_now (Kd.F_take hF2 hn2)
              rwa [List.length_take, Nat.min_eq_left hn2] at this
            obtain ⟨dd, hdd⟩ : ∃ dd, dd = s.data ++ rest.take nn := ⟨_, rfl⟩
            obtain ⟨dl, hdl⟩ : ∃ dl : Nat, dl = s.data.length + nn := ⟨_, rfl⟩
            have hdn : dd.length = dl := by rw [hdd, hdl, List.length_append, List.length_take, Nat.min_eq_left hn2]
            have hc1 := hP.out.room
            have a0 := hP.out.low
            have a1 : a + (nn : Int) ≤ 5000000000000 := by have := hP.out.high; omega
            have p0 : (0 : Int) ≤ (nn : Int) := by omega
            have p1 : (nn : Int) ≤ (c : Int) := by omega
            have p2 : (nn : Int) ≤ (rest.length : Int) := by omega
            have p3 : (rest.length : Int) ≤ (c : Int) := by omega
            have hdm : dl ≤ 1000000 := by have := hP.out.few; omega
            have hRz := Aside0.mk (hR2.out.keep (W' := wd.drew) (fun _ _ _ => rfl))
            have HBz : Aside0 (Below B wd wd.drew) := Aside0.mk (below_drew (Below.refl B wd))
            have hKz : Aside0 (Kp wr wd.drew (ownOf g (.slice AD s.data.length cD) (.slice AS (segL s.places).length cS))) := Aside0.mk hK2.out.drew
            have hTz : Aside0 ((Kd.int .u8).C wd.drew (some ad) nn (rest.take nn)) := Aside0.mk hT2
            have hBs2 : B ≤ wd.drew.heap.size := Nat.le_of_lt (Nat.lt_of_le_of_lt hR2.out.low (hR2.out.lt (.inl rfl)))
            have hsz3 : wr.heap.size ≤ wd.drew.heap.size := hsz2
            replace hdd := Aside0.mk hdd
            replace hdl := Aside0.mk hdl
            replace hdn := Aside0.mk hdn
            clear hF2 hT2
            go_upto_region 11 with (fail)
            go_cut [] (fun wx => ∃ AE cE, HandRaw wx B g (.slice AE dl cE) (.slice AS1 nS1 cS1) dd (segL (s.places ++ upFrom a 1)) s.most need next s.eat s.err ∧ Kp wr wx (ownOf g (.slice AD s.data.length cD) (.slice AS (segL s.places).length cS)) ∧ ∀ k, ownOf g (.slice AE dl cE) (.slice AS1 nS1 cS1) k → ownOf g (.slice AD s.data.length cD) (.slice AS (segL s.places).length cS) k ∨ wr.heap.size ≤ k)
            case first =>
              --{
              go_wp2_with fail
              refine start_ (n := 14) (S := fun w' => w'.cell? ⟨g, 1, none⟩ = some (.slice AD s.data.length cD)) (ds := [9, 13]) #[false, false, false, false, false, false, false, false, false, false, false, false, false, false] (by kernel_rfl) rfl rfl (x1) (fun hHeld => ?_); refine with_tabW Put.tab11 Put.bits11 (fun HT_ HW_ => ?_)
              generalize wd.drew = wz at hRz HBz hKz hTz hBs2 hsz3 hHeld ⊢
              refine pure_ (i := 0) (N := some 79) (v := ?_) (a' := ?_) #[true, false, false, false, false, false, false, false, false, false, false, false, false, false] rfl rfl (any_of HT_.out (by kernel_rfl)) (fun _ _ _ h => h) (Or.inl ⟨by rfl, ?_⟩) ?_ ?_
              rotate_left
              · intro w'
                go_simp
                with_reducible rfl
              rotate_left
              · simp only [Act.put, List.setIfInBounds_toArray, List.set_cons_zero, List.set_cons_succ, i64_w, i32_w]
                rfl
              refine pure_ (i := 1) (N := some 80) (v := ?_) (a' := ?_) #[true, true, false, false, false, false, false, false, false, false, false, false, false, false] rfl rfl (any_of HT_.out (by kernel_rfl)) (fun _ _ _ h => h) (Or.inl ⟨by rfl, ?_⟩) ?_ ?_
              rotate_left
              · intro w'
                go_simp
                with_reducible rfl
              rotate_left
              · simp only [Act.put, List.setIfInBounds_toArray, List.set_cons_zero, List.set_cons_succ, i64_w, i32_w]
                rfl
              refine pure_ (i := 2) (N := some 81) (v := ?_) (a' := ?_) #[true, true, true, false, false, false, false, false, false, false, false, false, false, false] rfl rfl (any_of HT_.out (by kernel_rfl)) (fun _ _ _ h => h) (Or.inl ⟨by rfl, ?_⟩) ?_ ?_
              rotate_left
              · intro w'
                go_simp
                with_reducible rfl
              rotate_left
              · simp only [Act.put, List.setIfInBounds_toArray, List.set_cons_zero, List.set_cons_succ, i64_w, i32_w]
                rfl
              refine pure_ (i := 3) (N := some 82) (v := ?_) (a' := ?_) #[true, true, true, true, false, false, false, false, false, false, false, false, false, false] rfl rfl (any_of HT_.out (by kernel_rfl)) (fun _ _ _ h => h) (Or.inl ⟨by rfl, ?_⟩) ?_ ?_
              rotate_left
              · intro w'
                go_simp
                with_reducible rfl
              rotate_left
              · simp only [Act.put, List.setIfInBounds_toArray, List.set_cons_zero, List.set_cons_succ, i64_w, i32_w]
                rfl
              refine pure_ (i := 4) (N := some 83) (v := ?_) (a' := ?_) #[true, true, true, true, true, false, false, false, false, false, false, false, false, false] rfl rfl (any_of HT_.out (by kernel_rfl)) (fun _ _ _ h => h) (Or.inl ⟨by rfl, ?_⟩) ?_ ?_
              rotate_left
              · intro w'
                go_simp
                with_reducible rfl
              rotate_left
              · simp only [Act.put, List.setIfInBounds_toArray, List.set_cons_zero, List.set_cons_succ, i64_w, i32_w]
                rfl
              refine pure_ (i := 6) (N := some 85) (v := ?_) (a' := ?_) #[true, true, true, true, true, false, true, false, false, false, false, false, false, false] rfl rfl (any_of HT_.out (by kernel_rfl)) (fun _ _ _ h => h) (Or.inl ⟨by rfl, ?_⟩) ?_ ?_
              rotate_left
              · intro w'
                go_simp
                with_reducible rfl
              rotate_left
              · simp only [Act.put, List.setIfInBounds_toArray, List.set_cons_zero, List.set_cons_succ, i64_w, i32_w]
                rfl
              refine pure_ (i := 7) (N := some 86) (v := ?_) (a' := ?_) #[true, true, true, true, true, false, true, true, false, false, false, false, false, false] rfl rfl (any_of HT_.out (by kernel_rfl)) (fun _ _ _ h => h) (Or.inl ⟨by rfl, ?_⟩) ?_ ?_
              rotate_left
              · intro w'
                go_simp
                with_reducible rfl
              rotate_left
              · simp only [Act.put, List.setIfInBounds_toArray, List.set_cons_zero, List.set_cons_succ, i64_w, i32_w]
                rfl
              refine pure_ (i := 8) (N := some 87) (v := ?_) (a' := ?_) #[true, true, true, true, true, false, true, true, true, false, false, false, false, false] rfl rfl (any_of HT_.out (by kernel_rfl)) (fun _ _ _ h => h) (Or.inl ⟨by rfl, ?_⟩) ?_ ?_
              rotate_left
              · intro w'
                go_simp
                with_reducible rfl
              rotate_left
              · simp only [Act.put, List.setIfInBounds_toArray, List.set_cons_zero, List.set_cons_succ, i64_w, i32_w]
                rfl
              refine take_ (i := 5) (N := some 84) (v := ?_) (a' := ?_) #[true, true, true, true, true, true, true, true, true, false, false, false, false, false] rfl rfl (take_ofW HT_.out HW_.out (by kernel_rfl)) (fun _ _ _ h => h) (Or.inl ⟨by rfl, ?_⟩) hHeld ?_ ?_
              rotate_left
              · intro w' s0
                go_simp
                with_reducible rfl
              rotate_left
              · simp only [Act.put, List.setIfInBounds_toArray, List.set_cons_zero, List.set_cons_succ, i64_w, i32_w]
                rfl
              refine last_ (i := 9) (N := some 88) #[true, true, true, true, true, true, true, true, true, true, false, false, false, false] rfl rfl (one_of HT_.out (by kernel_rfl)) (by decide) (fun K hK => ?_)
              refine Kd.R_append_rows_step (Kd.int .u8) (Rr := (Kd.int .u8).K wz) (w0 := wd) B (by rfl) (.tmp 84) (.tmp 87) 22 5 (.int .u8 0) 1 rfl Try.underlying22 byteInfo rfl (by decide) (by decide) (.slice AD s.data.length cD) s.data (rest.take nn) (some ad) nn c (fun _ => True) (fun _ => False) rfl rfl (Kd.R_mono hRz.out.dat (fun _ _ => trivial)) hTz.out (fun _ _ h => h) (fun _ hk => hk.elim) (fun _ _ => trivial) HBz.out hBs2 (by omega) ?_
              intro v3 w3 hR3 hB3 hg3 hat3
              rw [← hdd.out] at hR3
              obtain ⟨A3, c3, rfl, -⟩ := R_valn hR3 hdn.out
              have hX3 := Aside0.mk ((hg3.block g (hRz.out.lt (.inl rfl)) hRz.out.dg).trans hRz.out.blk)
              obtain ⟨-, z1, -, -, -, -, -⟩ := cells7 hX3.out
              have zf := live7 hX3.out 1
              have hP3 := Aside0.mk (hRz.out.putD hR3 hg3 hat3)
              clear hR3 hB3 hg3 hat3
              refine hK.out _ _ ?_
              clear hK K
              refine norm_ (a' := ?_) ?_ ?_
              rotate_left
              · show Act.put _ (some 88) _ = _
                simp only [Act.put, List.setIfInBounds_toArray, List.set_cons_zero, List.set_cons_succ, i64_w, i32_w]
                rfl
              refine pure_ (i := 10) (N := some 89) (v := ?_) (a' := ?_) #[true, true, true, true, true, true, true, true, true, true, true, false, false, false] rfl rfl (any_of HT_.out (by kernel_rfl)) (fun _ _ _ h => h) (Or.inl ⟨by rfl, ?_⟩) ?_ ?_
              rotate_left
              · intro w'
                go_simp
                with_reducible rfl
              rotate_left
              · simp only [Act.put, List.setIfInBounds_toArray, List.set_cons_zero, List.set_cons_succ, i64_w, i32_w]
                rfl
              refine pure_ (i := 11) (N := some 90) (v := ?_) (a' := ?_) #[true, true, true, true, true, true, true, true, true, true, true, true, false, false] rfl rfl (any_of HT_.out (by kernel_rfl)) (fun _ _ _ h => h) (Or.inl ⟨by rfl, ?_⟩) ?_ ?_
              rotate_left
              · intro w'
                go_simp
                with_reducible rfl
              rotate_left
              · simp only [Act.put, List.setIfInBounds_toArray, List.set_cons_zero, List.set_cons_succ, i64_w, i32_w]
                rfl
              refine pure_ (i := 12) (N := some 91) (v := ?_) (a' := ?_) #[true, true, true, true, true, true, true, true, true, true, true, true, true, false] rfl rfl (any_of HT_.out (by kernel_rfl)) (fun _ _ _ h => h) (Or.inl ⟨by rfl, ?_⟩) ?_ ?_
              rotate_left
              · intro w'
                go_simp
                with_reducible rfl
              rotate_left
              · simp only [Act.put, List.setIfInBounds_toArray, List.set_cons_zero, List.set_cons_succ, i64_w, i32_w]
                rfl
              refine last_ (i := 13) (N := none) #[true, true, true, true, true, true, true, true, true, true, true, true, true, true] rfl rfl (one_of HT_.out (by kernel_rfl)) (by decide) (fun K hK => ?_)
              refine skip_ (w1 := ?_) (by rfl) rfl ?_ ?_
              rotate_left
              · go_simp
                rfl
              refine hK.out _ _ ?_
              clear hK K
              refine done_ (done_of HT_.out (by kernel_rfl)) ?_
              try go_wp2
              go_meet
              refine ⟨_, _, hP3.out.1, hKz.out.then_ hP3.out.2.1 (fun k hk => ?_), fun k hk => ?_⟩
              · exact hO1 k hk
              · rcases hP3.out.2.2 k hk with h3 | h3
                · exact hO1 k h3
                · exact .inr (Nat.le_trans hKz.out.1 h3)
              --}
            case rest =>
              obtain ⟨AE, cE, hR4, hK4, hO4⟩ := hcut
              clear x0 x1 x2 x3 x4 x5 x6 hR2 hK2 hRz HBz hKz hTz hBs2 hsz3 hsz2 hO1
              obtain ⟨z0, z1, z2, z3, z4, z5, z6⟩ := cells7 hR4.blk
              have f4 := live7 hR4.blk 4
              replace hR4 := Aside0.mk hR4
              replace hK4 := Aside0.mk hK4
              obtain ⟨A2, hA2⟩ : ∃ A2, A2 = (if c = nn then some ad else some (ad.add nn)) := ⟨_, rfl⟩
              have hA3 : A2 = (if c = nn then some ad else (some ad).map (·.add (nn * 1))) := by rw [hA2, Option.map_some, Nat.mul_one]
              obtain ⟨c2, hc2⟩ : ∃ c2, c2 = c - nn := ⟨_, rfl⟩
              obtain ⟨r2, hr2⟩ : ∃ r2, r2 = rest.drop nn := ⟨_, rfl⟩
              have hr3 : r2.length = rest.length - nn := by rw [hr2, List.length_drop]
              replace hA2 := Aside0.mk hA2
              replace hA3 := Aside0.mk hA3
              replace hc2 := Aside0.mk hc2
              replace hr2 := Aside0.mk hr2
              replace hr3 := Aside0.mk hr3
              obtain ⟨pp, hpp⟩ : ∃ pp, pp = s.places ++ upFrom a nn := ⟨_, rfl⟩
              have hll : Aside0 (segL (s.places ++ upFrom a 1) = segL pp) := Aside0.mk (by rw [hpp, segL_piece _ _ nn hn1])
              have hpl : pp.length = dl := by rw [hpp, List.length_append, upFrom_length, hFA.out.len, hdl.out]
              have hFm : ∀ need', (4 ≤ dl → need' = needOf dd ∧ (dl : Int) < needOf dd) → HSt.Fits { s with data := dd, places := pp } need' (a + nn) := fun need' hq => by
                rw [hpp, hdd.out]
                refine fits_more hFA.out hP.out.err hn2 hn1 hP.out.byte a0 a1 ?_
                rw [← hdd.out, hdn.out]
                exact hq
              have hby : ∀ x ∈ dd, 0 ≤ x ∧ x ≤ 255 := fun x hx => by
                rw [hdd.out] at hx
                rcases List.mem_append.1 hx with hx | hx
                · exact hFA.out.byte x hx
                · exact hP.out.byte x (List.mem_of_mem_take hx)
              replace hpp := Aside0.mk hpp
              replace hpl := Aside0.mk hpl
              replace hFm := Aside0.mk hFm
              replace hby := Aside0.mk hby
              go_upto_region 14 with (fail)
              go_cut [2] (fun v2 wx => v2 = .slice A2 r2.length c2 ∧ HandRaw wx B g (.slice AE dl cE) (.slice AS1 nS1 cS1) dd (segL pp) s.most need (a + nn) s.eat s.err ∧ Kp wr wx (ownOf g (.slice AD s.data.length cD) (.slice AS (segL s.places).length cS)))
              case first =>
                --{
                have hE : ∀ q : Bool, decide (c = nn) = q → Aside0 (Value.slice A2 r2.length c2 = if q = true then .slice (some ad) (rest.length - nn) 0 else .slice (some (ad.add nn)) (rest.length - nn) (c - nn)) := fun q hq => Aside0.mk (by
                  rw [hA2.out, hr3.out, hc2.out]
                  cases q
                  · rw [if_neg (of_decide_eq_false hq)]
                    rfl
                  · rw [if_pos (of_decide_eq_true hq), show c - nn = 0 by have := of_decide_eq_true hq; omega]
                    rfl)
                by_cases hcn : c = nn
                · have hE2 := Aside0.mk (hE true (decide_eq_true hcn)).out
                  go_wp2
                  go_meet
                  refine ⟨?_, ?_, hK4.out.setCell (p := ⟨g, 4, none⟩) (.inl (.inl rfl)) _⟩
                  · rw [hE2.out]
                    rfl
                  · rw [← hll.out]
                    exact hR4.out.set 4 _ rfl
                · have hE2 := Aside0.mk (hE false (decide_eq_false hcn)).out
                  go_wp2
                  go_meet
                  refine ⟨?_, ?_, hK4.out.setCell (p := ⟨g, 4, none⟩) (.inl (.inl rfl)) _⟩
                  · rw [hE2.out]
                    rfl
                  · rw [← hll.out]
                    exact hR4.out.set 4 _ rfl
                --}
              case rest =>
                obtain ⟨rfl, hR5, hK5⟩ := hcut
                clear z0 z1 z2 z3 z4 z5 z6 f4 hR4 hK4
                have hms : Aside0 (lenOf (.slice A2 r2.length c2) < lenOf (.slice (some ad) rest.length c)) := Aside0.mk (by show r2.length < rest.length; rw [hr3.out]; omega)
                obtain ⟨b, capb, heq, hBb, hbl, -⟩ := Kd.R_form hR5.dat (by rw [hdn.out]; have := hdl.out; omega)
                obtain rfl : AE = some ⟨b, 0, none⟩ := by injection heq
                clear heq
                have hbg : b ≠ g := fun e => hR5.dg (by rw [← e]; rfl)
                have hns := (Kd.R_reads' hR5.seg).1
                have hpn : pp ≠ [] := fun e => by
                  have q1 := hpl.out
                  have q2 := hdl.out
                  rw [e, List.length_nil] at q1
                  omega
                obtain ⟨b2, capb2, heq, -, -, -⟩ := Kd.R_form hR5.seg (List.length_pos_iff.2 (segL_ne hpn))
                obtain rfl : AS1 = some ⟨b2, 0, none⟩ := by injection heq
                clear heq
                have hsg1 := segL_len pp
                rw [hpl.out] at hsg1
                have hns2 : nS1 ≤ 1000000 := by omega
                have hcs1 := (Kd.R_reads' hR5.seg).2.1
                obtain ⟨x0, x1, x2, x3, x4, x5, x6⟩ := cells7 hR5.blk
                replace hO4 := Aside0.mk hO4
                replace hR5 := Aside0.mk hR5
                replace hK5 := Aside0.mk hK5
                replace hns := Aside0.mk hns
                replace hpn := Aside0.mk hpn
                by_cases h4 : s.data.length < 4
                · have k4 : decide ((s.data.length : Int) < 4) = true := decide_eq_true (by omega)
                  by_cases h5 : dl = 4
                  · have e1 : ((dl : Int) == 4) = true := beq_iff_eq.2 (by omega)
                    have e2 : decide (4 ≤ (dl : Int)) = true := decide_eq_true (by omega)
                    have hCd : (Kd.int .u8).C wc (some ⟨b, 0, none⟩) dl dd := by
                      have := (Kd.R_reads' hR5.out.dat).2.2
                      rwa [hdn.out] at this
                    have hh := head_any g cE b dl dd s.most need (a + nn) s.eat s.err (.slice (some ⟨b2, 0, none⟩) nS1 cS1) wc h5 hR5.out.blk hdn.out hby.out hCd hbg
                    have hpart := head_part (a := a) hn2 hn1 hP.out.err (by have := hdl.out; omega)
                    rw [← hdd.out, ← hpp.out] at hpart
                    have hnd4 := need_le hby.out
                    obtain ⟨er, her⟩ : ∃ er, er = headErr s.most dd := ⟨_, rfl⟩
                    obtain ⟨nd, hnd5⟩ : ∃ nd, nd = needOf dd := ⟨_, rfl⟩
                    rw [← her, ← hnd5] at hh hpart
                    rw [← hnd5] at hnd4
                    obtain ⟨n1, n2⟩ := hnd4
                    replace hh := Aside0.mk hh
                    replace hnd5 := Aside0.mk hnd5
                    clear her hCd
                    have h4n : 4 ≤ dl := by omega
                    have hln : (dl : Int) ≤ nd := by omega
                    replace h5 := Aside0.mk h5
                    by_cases h7 : er = 0
                    · subst h7
                      rw [if_pos rfl] at hpart
                      by_cases h8 : nd = 4
                      · --{
                        have e3 : ((nd - (dl : Int)) == 0) = true := beq_iff_eq.2 (by have := h5.out; omega)
                        rw [if_pos h8] at hpart
                        have hqf := Aside0.mk hpart
                        clear hpart
                        replace h8 := Aside0.mk h8
                        go_wp2_with (first
                          | (go_at_call 22; refine hh.out.mono ?_; rintro e w1 ⟨rfl, hX1, hKh⟩; have hR6 := Aside0.mk (hR5.out.headed hX1 hKh); have hK6 := Aside0.mk (hK5.out.then_ hKh (fun k hk => .inl (.inl hk))); obtain ⟨y0, y1, y2, y3, y4, y5, y6⟩ := cells7 hX1; clear hX1 hKh)
                          | (go_at_call 21; refine (want_hi g dl cE _ s.most nd (a + nn) s.eat s.err _ _ hR6.out.blk h4n hln (by omega)).mono ?_; rintro e w2 ⟨rfl, m, rfl⟩))
                        have hR7 := Aside0.mk (hR6.out.keep (W' := w1.drewN m) (fun _ _ _ => by simp))
                        have hK7 := Aside0.mk (hK6.out.drewN m)
                        have hRz := Aside0.mk (hR7.out.keep (W' := (w1.drewN m).drew) (fun _ _ _ => rfl))
                        have hKz : Aside0 (Kp wr (w1.drewN m).drew (ownOf g (.slice AD s.data.length cD) (.slice AS (segL s.places).length cS))) := Aside0.mk hK7.out.drew
                        have hNz := Aside0.mk (hP.out.outKept hKz.out hO4.out)
                        have hgz : g < (w1.drewN m).drew.heap.size := hRz.out.lt (.inl rfl)
                        have hwz : w.heap.size ≤ (w1.drewN m).drew.heap.size := Nat.le_trans hP.out.kept.1 hKz.out.1
                        obtain ⟨-, v1, v2, -, -, -, -⟩ := cells7 hRz.out.blk
                        clear hR5 hK5
                        refine start_ (n := 17) (S := fun w' => w'.cell? ⟨g, 1, none⟩ = some (.slice (some ⟨b, 0, none⟩) dl cE) ∧ w'.cell? ⟨g, 2, none⟩ = some (.slice (some ⟨b2, 0, none⟩) nS1 cS1)) (ds := [15]) #[false, false, false, false, false, false, false, false, false, false, false, false, false, false, false, false, false] (by kernel_rfl) rfl rfl ⟨v1, v2⟩ (fun hHeld => ?_); refine with_tabW Put.tab22 Put.bits22 (fun HT_ HW_ => ?_)
                        have hCz : (Kd.int .u8).C (w1.drewN m).drew (some ⟨b, 0, none⟩) dl dd := by
                          have := (Kd.R_reads' hRz.out.dat).2.2
                          rwa [hdn.out] at this
                        have hSz : Kd.C k39 (w1.drewN m).drew (some ⟨b2, 0, none⟩) nS1 (segL pp) := by
                          have := (Kd.R_reads' hRz.out.seg).2.2
                          rwa [← hns.out] at this
                        replace hCz := Aside0.mk hCz
                        replace hSz := Aside0.mk hSz
                        clear v1 v2
                        generalize (w1.drewN m).drew = wz at hRz hKz hNz hgz hwz hCz hSz hHeld ⊢
                        refine pure_ (i := 0) (N := some 153) (v := ?_) (a' := ?_) #[true, false, false, false, false, false, false, false, false, false, false, false, false, false, false, false, false] rfl rfl (any_of HT_.out (by kernel_rfl)) (fun _ _ _ h => h) (Or.inl ⟨by rfl, ?_⟩) ?_ ?_
                        rotate_left
                        · intro w'
                          go_simp
                          with_reducible rfl
                        rotate_left
                        · simp only [Act.put, List.setIfInBounds_toArray, List.set_cons_zero, List.set_cons_succ, i64_w, i32_w]
                          rfl
                        refine pure_ (i := 1) (N := some 154) (v := ?_) (a' := ?_) #[true, true, false, false, false, false, false, false, false, false, false, false, false, false, false, false, false] rfl rfl (any_of HT_.out (by kernel_rfl)) (fun _ _ _ h => h) (Or.inl ⟨by rfl, ?_⟩) ?_ ?_
                        rotate_left
                        · intro w'
                          go_simp
                          with_reducible rfl
                        rotate_left
                        · simp only [Act.put, List.setIfInBounds_toArray, List.set_cons_zero, List.set_cons_succ, i64_w, i32_w]
                          rfl
                        refine pure_ (i := 2) (N := some 155) (v := ?_) (a' := ?_) #[true, true, true, false, false, false, false, false, false, false, false, false, false, false, false, false, false] rfl rfl (any_of HT_.out (by kernel_rfl)) (fun _ _ _ h => h) (Or.inl ⟨by rfl, ?_⟩) ?_ ?_
                        rotate_left
                        · intro w'
                          go_simp
                          with_reducible rfl
                        rotate_left
                        · simp only [Act.put, List.setIfInBounds_toArray, List.set_cons_zero, List.set_cons_succ, i64_w, i32_w]
                          rfl
                        refine pure_ (i := 3) (N := some 156) (v := ?_) (a' := ?_) #[true, true, true, true, false, false, false, false, false, false, false, false, false, false, false, false, false] rfl rfl (any_of HT_.out (by kernel_rfl)) (fun _ _ _ h => h) (Or.inl ⟨by rfl, ?_⟩) ?_ ?_
                        rotate_left
                        · intro w'
                          go_simp
                          with_reducible rfl
                        rotate_left
                        · simp only [Act.put, List.setIfInBounds_toArray, List.set_cons_zero, List.set_cons_succ, i64_w, i32_w]
                          rfl
                        refine pure_ (i := 4) (N := some 157) (v := ?_) (a' := ?_) #[true, true, true, true, true, false, false, false, false, false, false, false, false, false, false, false, false] rfl rfl (any_of HT_.out (by kernel_rfl)) (fun _ _ _ h => h) (Or.inl ⟨by rfl, ?_⟩) ?_ ?_
                        rotate_left
                        · intro w'
                          go_simp
                          with_reducible rfl
                        rotate_left
                        · simp only [Act.put, List.setIfInBounds_toArray, List.set_cons_zero, List.set_cons_succ, i64_w, i32_w]
                          rfl
                        refine pure_ (i := 7) (N := some 160) (v := ?_) (a' := ?_) #[true, true, true, true, true, false, false, true, false, false, false, false, false, false, false, false, false] rfl rfl (any_of HT_.out (by kernel_rfl)) (fun _ _ _ h => h) (Or.inl ⟨by rfl, ?_⟩) ?_ ?_
                        rotate_left
                        · intro w'
                          go_simp
                          with_reducible rfl
                        rotate_left
                        · simp only [Act.put, List.setIfInBounds_toArray, List.set_cons_zero, List.set_cons_succ, i64_w, i32_w]
                          rfl
                        refine pure_ (i := 8) (N := some 161) (v := ?_) (a' := ?_) #[true, true, true, true, true, false, false, true, true, false, false, false, false, false, false, false, false] rfl rfl (any_of HT_.out (by kernel_rfl)) (fun _ _ _ h => h) (Or.inl ⟨by rfl, ?_⟩) ?_ ?_
                        rotate_left
                        · intro w'
                          go_simp
                          with_reducible rfl
                        rotate_left
                        · simp only [Act.put, List.setIfInBounds_toArray, List.set_cons_zero, List.set_cons_succ, i64_w, i32_w]
                          rfl
                        refine pure_ (i := 9) (N := some 162) (v := ?_) (a' := ?_) #[true, true, true, true, true, false, false, true, true, true, false, false, false, false, false, false, false] rfl rfl (any_of HT_.out (by kernel_rfl)) (fun _ _ _ h => h) (Or.inl ⟨by rfl, ?_⟩) ?_ ?_
                        rotate_left
                        · intro w'
                          go_simp
                          with_reducible rfl
                        rotate_left
                        · simp only [Act.put, List.setIfInBounds_toArray, List.set_cons_zero, List.set_cons_succ, i64_w, i32_w]
                          rfl
                        refine pure_ (i := 10) (N := some 163) (v := ?_) (a' := ?_) #[true, true, true, true, true, false, false, true, true, true, true, false, false, false, false, false, false] rfl rfl (any_of HT_.out (by kernel_rfl)) (fun _ _ _ h => h) (Or.inl ⟨by rfl, ?_⟩) ?_ ?_
                        rotate_left
                        · intro w'
                          go_simp
                          with_reducible rfl
                        rotate_left
                        · simp only [Act.put, List.setIfInBounds_toArray, List.set_cons_zero, List.set_cons_succ, i64_w, i32_w]
                          rfl
                        refine take_ (i := 5) (N := some 158) (v := ?_) (a' := ?_) #[true, true, true, true, true, true, false, true, true, true, true, false, false, false, false, false, false] rfl rfl (take_ofW HT_.out HW_.out (by kernel_rfl)) (fun _ _ _ h => h) (Or.inl ⟨by rfl, ?_⟩) hHeld ?_ ?_
                        rotate_left
                        · rintro w' ⟨s0, s1⟩
                          go_simp
                          with_reducible rfl
                        rotate_left
                        · simp only [Act.put, List.setIfInBounds_toArray, List.set_cons_zero, List.set_cons_succ, i64_w, i32_w]
                          rfl
                        refine take_ (i := 11) (N := some 164) (v := ?_) (a' := ?_) #[true, true, true, true, true, true, false, true, true, true, true, true, false, false, false, false, false] rfl rfl (take_ofW HT_.out HW_.out (by kernel_rfl)) (fun _ _ _ h => h) (Or.inl ⟨by rfl, ?_⟩) hHeld ?_ ?_
                        rotate_left
                        · rintro w' ⟨s0, s1⟩
                          go_simp
                          with_reducible rfl
                        rotate_left
                        · simp only [Act.put, List.setIfInBounds_toArray, List.set_cons_zero, List.set_cons_succ, i64_w, i32_w]
                          rfl
                        refine one_ (i := 6) (N := some 159) #[true, true, true, true, true, true, true, true, true, true, true, true, false, false, false, false, false] rfl rfl (one_of HT_.out (by kernel_rfl)) (by decide) (fun K hK => ?_)
                        refine goes_ Try.func23 (by kernel_rfl) rfl #[.slice (some ⟨b, 0, none⟩) dl cE] (by rfl) rfl rfl (by simp only [List.map_toArray, List.map_cons, List.map_nil]; rfl) ?_
                        with_reducible refine (bytes_clone2 _ ⟨b, 0, none⟩ dl cE dd hdm hCz.out).mono ?_
                        rintro e wA ⟨AA, cA, rfl, hcA, hbA, hrA⟩
                        refine ⟨_, rfl, ?_⟩
                        have hgA := Nat.lt_of_lt_of_le hgz hbA.size
                        replace hrA := Aside0.mk hrA
                        refine hK.out _ _ ⟨(hbA.cell (p := ⟨g, 1, none⟩) hgz).trans hHeld.1, (hbA.cell (p := ⟨g, 2, none⟩) hgz).trans hHeld.2⟩ (fun hHeld => ?_)
                        clear hK K
                        refine norm_ (a' := ?_) ?_ ?_
                        rotate_left
                        · show Act.put _ (some 159) _ = _
                          simp only [Act.put, List.setIfInBounds_toArray, List.set_cons_zero, List.set_cons_succ, i64_w, i32_w]
                          rfl
                        refine one_ (i := 12) (N := some 165) #[true, true, true, true, true, true, true, true, true, true, true, true, true, false, false, false, false] rfl rfl (one_of HT_.out (by kernel_rfl)) (by decide) (fun K hK => ?_)
                        refine goes_ Try.func24 (by kernel_rfl) rfl #[.slice (some ⟨b2, 0, none⟩) nS1 cS1] (by rfl) rfl rfl (by simp only [List.map_toArray, List.map_cons, List.map_nil]; rfl) ?_
                        with_reducible refine (segs_clone2 _ ⟨b2, 0, none⟩ nS1 cS1 (segL pp) hns2 (Kd.C_below hSz.out hbA)).mono ?_
                        rintro e wB ⟨AB, cB, rfl, hcB, hbB, hrB⟩
                        refine ⟨_, rfl, ?_⟩
                        replace hrB := Aside0.mk hrB
                        refine hK.out _ _ ⟨(hbB.cell (p := ⟨g, 1, none⟩) hgA).trans hHeld.1, (hbB.cell (p := ⟨g, 2, none⟩) hgA).trans hHeld.2⟩ (fun hHeld => ?_)
                        clear hK K
                        refine norm_ (a' := ?_) ?_ ?_
                        rotate_left
                        · show Act.put _ (some 165) _ = _
                          simp only [Act.put, List.setIfInBounds_toArray, List.set_cons_zero, List.set_cons_succ, i64_w, i32_w]
                          rfl
                        refine pure_ (i := 13) (N := some 166) (v := ?_) (a' := ?_) #[true, true, true, true, true, true, true, true, true, true, true, true, true, true, false, false, false] rfl rfl (any_of HT_.out (by kernel_rfl)) (fun _ _ _ h => h) (Or.inl ⟨by rfl, ?_⟩) ?_ ?_
                        rotate_left
                        · intro w'
                          go_simp
                          with_reducible rfl
                        rotate_left
                        · simp only [Act.put, List.setIfInBounds_toArray, List.set_cons_zero, List.set_cons_succ, i64_w, i32_w]
                          rfl
                        refine one_ (i := 14) (N := some 167) #[true, true, true, true, true, true, true, true, true, true, true, true, true, true, true, false, false] rfl rfl (one_of HT_.out (by kernel_rfl)) (by decide) (fun K hK => ?_)
                        refine value_ (w1 := ?_) (v := ?_) (by rfl) rfl ?_ ?_
                        rotate_left 2
                        · go_simp
                          constructor
                          · rfl
                          · rfl
                        refine hK.out _ _ ⟨(World.cell?_alloc_lt _ _ _ (World.block_lt_of_cell? _ _ hHeld.1)).trans hHeld.1, (World.cell?_alloc_lt _ _ _ (World.block_lt_of_cell? _ _ hHeld.2)).trans hHeld.2⟩ (fun hHeld => ?_)
                        clear hK K
                        refine norm_ (a' := ?_) ?_ ?_
                        rotate_left
                        · show Act.put _ (some 167) _ = _
                          simp only [Act.put, List.setIfInBounds_toArray, List.set_cons_zero, List.set_cons_succ, i64_w, i32_w]
                          rfl
                        refine last_ (i := 15) (N := some 168) #[true, true, true, true, true, true, true, true, true, true, true, true, true, true, true, true, false] rfl rfl (one_of HT_.out (by kernel_rfl)) (by decide) (fun K hK => ?_)
                        have hbAB := hbA.trans (hbB.mono hbA.size)
                        have hokp : ∀ k, wz.heap.size ≤ k → (w.heap.size ≤ k ∧ ¬ ownOf g (.slice (some ⟨b, 0, none⟩) dl cE) (.slice (some ⟨b2, 0, none⟩) nS1 cS1) k) ∧ some k ≠ u9.ownBlock := fun k hk => ⟨⟨Nat.le_trans hwz hk, fun h3 => by have := hRz.out.lt h3; omega⟩, fun h3 => by have := Kd.N_lt hNz.out k h3.symm; omega⟩
                        refine Kd.N_append_step k37 (w0 := wz) w.heap.size (by rfl) (.tmp 153) (.tmp 167) 30 37 (.agg #[.slice none 0 0, .slice none 0 0]) 48 rfl Try.underlying30 foundInfo rfl (by decide) (by decide) u9 (outs.map foundOf) (foundOf (dd, pp)) [.slice AA dl cA, .slice AB nS1 cB] (fun k => w.heap.size ≤ k ∧ ¬ ownOf g (.slice (some ⟨b, 0, none⟩) dl cE) (.slice (some ⟨b2, 0, none⟩) nS1 cS1) k) (fun k => wz.heap.size ≤ k) rfl rfl (found_FK (Kd.R_below hrA.out hbB) (Kd.R_mono hrB.out (fun k hk => Nat.le_trans hbA.size hk))) hokp (fun k hk => (hokp k (Nat.le_trans hbAB.size hk)).1) (Kd.N_below hNz.out hbAB) (hbAB.mono hwz) (Nat.le_trans hwz hbAB.size) (by rw [List.length_map]; have := hP.out.num; omega) ?_
                        intro v3 w3 ho hb3 hg3 hat3
                        have hR3 := Aside0.mk (hRz.out.keep (W' := w3) (fun k hk hlt => (hg3.block k (Nat.lt_of_lt_of_le hlt hbAB.size) (fun e => (hNz.out.1 k e.symm).2 hk)).trans (hbAB.block k hlt)))
                        have hK3 := Aside0.mk (Kp.of_grown hg3 ((hP.out.kept.then_ hKz.out hP.out.own).below hbAB) (fun k hk => .inr (Kd.N_base hNz.out k hk)))
                        have hN3 := Aside0.mk ho
                        obtain ⟨t0, t1, t2, t3, t4, t5, t6⟩ := cells7 hR3.out.blk
                        have tf1 := live7 hR3.out.blk 1
                        have tf2 := live7 hR3.out.blk 2
                        clear ho hb3 hg3 hat3 hokp hbAB
                        refine hK.out _ _ ?_
                        clear hK K
                        refine norm_ (a' := ?_) ?_ ?_
                        rotate_left
                        · show Act.put _ (some 168) _ = _
                          simp only [Act.put, List.setIfInBounds_toArray, List.set_cons_zero, List.set_cons_succ, i64_w, i32_w]
                          rfl
                        refine pure_ (i := 16) (N := some 9) (v := ?_) (a' := ?_) #[true, true, true, true, true, true, true, true, true, true, true, true, true, true, true, true, true] rfl rfl (any_of HT_.out (by kernel_rfl)) (fun _ _ _ h => h) (Or.inl ⟨by rfl, ?_⟩) ?_ ?_
                        rotate_left
                        · intro w'
                          go_simp
                          with_reducible rfl
                        rotate_left
                        · simp only [Act.put, List.setIfInBounds_toArray, List.set_cons_zero, List.set_cons_succ, i64_w, i32_w]
                          rfl
                        refine done_ (done_of HT_.out (by kernel_rfl)) ?_
                        try go_wp2
                        go_roundw
                        case rel =>
                          refine ⟨a + nn, A2, c2, r2, { s with data := [], places := [] }, .slice none 0 0, .slice none 0 0, outs ++ [(dd, pp)], rfl, rfl, ?_⟩
                          rw [hA3.out, hc2.out, hr2.out]
                          have hG := hR3.out.gone
                          exact hP.out.next (s1 := { s with data := [], places := [] }) (o1 := [(dd, pp)]) hn2 hqf.out hP.out.err ⟨nd, a + nn, hG.1, fits_none hFA.out nd s.eat s.err s.most⟩ (hK3.out.then_ hG.2.1 (fun k hk => hP.out.own2 hO4.out k hk)) (fun k hk => hP.out.own2 hO4.out k (hG.2.2 k hk))
                            (by rw [List.map_append]; exact Kd.N_mono (Kd.N_kept hN3.out hG.2.1.kept (fun k hk => hk.2)) (fun k hk => ⟨hk.1, fun h3 => hk.2 (hG.2.2 k h3)⟩)) (Nat.zero_le _) hn1
                        case measure => exact hms.out
                        --}
                      · have e3 : ((nd - (dl : Int)) == 0) = false := beq_eq_false_iff_ne.2 (by have := h5.out; omega)
                        rw [if_neg h8] at hpart
                        have hqf := Aside0.mk hpart
                        clear hpart
                        go_wp2_with (first
                          | (go_at_call 22; refine hh.out.mono ?_; rintro e w1 ⟨rfl, hX1, hKh⟩; have hR6 := Aside0.mk (hR5.out.headed hX1 hKh); have hK6 := Aside0.mk (hK5.out.then_ hKh (fun k hk => .inl (.inl hk))); obtain ⟨y0, y1, y2, y3, y4, y5, y6⟩ := cells7 hX1; clear hX1 hKh)
                          | (go_at_call 21; refine (want_hi g dl cE _ s.most nd (a + nn) s.eat s.err _ _ hR6.out.blk h4n hln (by omega)).mono ?_; rintro e w2 ⟨rfl, m, rfl⟩))
                        have hK7 := Aside0.mk (hK6.out.drewN m)
                        have hIs2 : Aside0 (HandIs (w1.drewN m) B g (.slice (some ⟨b, 0, none⟩) dl cE) (.slice (some ⟨b2, 0, none⟩) nS1 cS1) { s with data := dd, places := pp }) := Aside0.mk ⟨nd, a + nn, hR6.out.keep (fun _ _ _ => by simp), hFm.out nd (fun h => ⟨hnd5.out, by rw [← hnd5.out]; have := h5.out; omega⟩)⟩
                        go_roundw
                        case rel =>
                          refine ⟨a + nn, A2, c2, r2, { s with data := dd, places := pp }, (.slice (some ⟨b, 0, none⟩) dl cE), (.slice (some ⟨b2, 0, none⟩) nS1 cS1), outs ++ [], rfl, rfl, ?_⟩
                          rw [hA3.out, hc2.out, hr2.out]
                          exact hP.out.next (s1 := { s with data := dd, places := pp }) (o1 := []) hn2 hqf.out hP.out.err hIs2.out (hP.out.kept.then_ hK7.out hP.out.own) (hP.out.own2 hO4.out) (by rw [List.append_nil]; exact hP.out.outKept hK7.out hO4.out) (by show dd.length ≤ _; rw [hdn.out, hdl.out]; exact Nat.le_refl _) (Nat.zero_le _)
                        case measure => exact hms.out
                    · rw [if_neg h7] at hpart
                      have hstop := hP.out.stop hn2 hpart h7
                      obtain ⟨pl, hpl2⟩ : ∃ pl, pl = pp.getD 0 0 := ⟨_, rfl⟩
                      rw [← hpl2] at hstop
                      have hfar : ∀ p ∈ pp, 0 ≤ p ∧ p ≤ 5000000000000 := by rw [hpp.out]; exact places_far hFA.out.far a0 a1
                      have hpc : ∀ W, Kd.C k39 W (some ⟨b2, 0, none⟩) nS1 (segL pp) → Calls Try.prog 14 #[.agg #[.slice (some ⟨b, 0, none⟩) dl cE, .slice (some ⟨b2, 0, none⟩) nS1 cS1], .int .i64 0] W fun e w' => e = .returned (.int .i64 pl) ∧ Below W.heap.size W w' := fun W hCW => by
                        rw [hns.out] at hCW ⊢
                        have := Place_calls (some ⟨b, 0, none⟩) (some ⟨b2, 0, none⟩) dl cE cS1 (segL pp) 0 W (segL_ne hpn.out) hCW (by rw [← hns.out]; exact hcs1) (by rw [← hns.out]; exact hns2) hdm (segL_ok hfar (by rw [hpl.out]; exact hdm)) (by omega)
                        rwa [place_first hpn.out, ← hpl2] at this
                      have k7 : (er != 0) = true := by simpa using h7
                      replace hpc := Aside0.mk hpc
                      replace hstop := Aside0.mk hstop
                      replace hpl2 := Aside0.mk hpl2
                      clear hpart
                      go_wp2_with (first
                        | (go_at_call 22; refine hh.out.mono ?_; rintro e w1 ⟨rfl, hX1, hKh⟩; have hR6 := Aside0.mk (hR5.out.headed hX1 hKh); have hK6 := Aside0.mk (hK5.out.then_ hKh (fun k hk => .inl (.inl hk))); obtain ⟨y0, y1, y2, y3, y4, y5, y6⟩ := cells7 hX1; clear hX1 hKh)
                        | (go_at_call 14; refine (hpc.out _ (by have := (Kd.R_reads' hR6.out.seg).2.2; rwa [← hns.out] at this)).mono ?_; rintro e w2 ⟨rfl, hb2⟩; have hR7 := Aside0.mk (hR6.out.keep (W' := w2) (fun k hk hlt => hb2.block k hlt)); have hK7 := Aside0.mk (hK6.out.below hb2); obtain ⟨t0, t1, t2, t3, t4, t5, t6⟩ := cells7 hR7.out.blk; have tf1 := live7 hR7.out.blk 1; have tf2 := live7 hR7.out.blk 2; have tf5 := live7 hR7.out.blk 5; have tf6 := live7 hR7.out.blk 6; clear hb2))
                      go_quiet (fail)
                      go_wp2
                      go_ret3
                      have hG := ((hR7.out.set 5 (.int .i64 pl) rfl).set 6 (.int .i64 er) rfl).gone
                      have hK8 := (((Kp.refl w2 (ownOf g (.slice (some ⟨b, 0, none⟩) dl cE) (.slice (some ⟨b2, 0, none⟩) nS1 cS1))).setCell (p := ⟨g, 5, none⟩) (.inl (.inl rfl)) (.int .i64 pl)).setCell (p := ⟨g, 6, none⟩) (.inl (.inl rfl)) (.int .i64 er)).then_ hG.2.1 (fun k hk => .inl hk)
                      have hK9 := hK7.out.then_ hK8 hO4.out
                      have hO9 : ∀ k, ownOf g (.slice none 0 0) (.slice none 0 0) k → ownOf g (.slice AD s.data.length cD) (.slice AS (segL s.places).length cS) k ∨ wr.heap.size ≤ k := fun k hk => hO4.out k (hG.2.2 k hk)
                      rw [hstop.out]
                      exact ⟨u9, .slice none 0 0, .slice none 0 0, ret_err h7, ⟨nd, a + nn, hG.1.keep (fun _ _ _ => by simp), fits_none hFA.out nd pl er s.most⟩, Kd.N_drewN (hP.out.outKept hK9 hO9) _, (hP.out.kept.then_ hK9 hP.out.own).drewN _, hP.out.own2 hO9⟩
                  · have h6 : dl < 4 := by have h1 := hdl.out; have h2 := hnA.out h4; omega
                    have e1 : ((dl : Int) == 4) = false := beq_eq_false_iff_ne.2 (by omega)
                    have e2 : decide (4 ≤ (dl : Int)) = false := decide_eq_false (by omega)
                    have hqf : Aside0 (feed s (zipAt (rest.take nn) a) = ({ s with data := dd, places := pp }, [])) := Aside0.mk (by rw [quiet_part hn2 hP.out.err (.inl (by have := hdl.out; omega)), hdd.out, hpp.out])
                    have hIs : Aside0 (HandIs wc B g (.slice (some ⟨b, 0, none⟩) dl cE) (.slice (some ⟨b2, 0, none⟩) nS1 cS1) { s with data := dd, places := pp }) := Aside0.mk ⟨need, a + nn, hR5.out, hFm.out need (fun h => absurd h (by omega))⟩
                    go_wp2
                    go_roundw
                    case rel =>
                      refine ⟨a + nn, A2, c2, r2, { s with data := dd, places := pp }, (.slice (some ⟨b, 0, none⟩) dl cE), (.slice (some ⟨b2, 0, none⟩) nS1 cS1), outs ++ [], rfl, rfl, ?_⟩
                      rw [hA3.out, hc2.out, hr2.out]
                      exact hP.out.next (s1 := { s with data := dd, places := pp }) (o1 := []) hn2 hqf.out hP.out.err hIs.out (hP.out.kept.then_ hK5.out hP.out.own) (hP.out.own2 hO4.out) (by rw [List.append_nil]; exact hP.out.outKept hK5.out hO4.out) (by show dd.length ≤ _; rw [hdn.out, hdl.out]; exact Nat.le_refl _) (Nat.zero_le _)
                    case measure => exact hms.out
                · have k4 : decide ((s.data.length : Int) < 4) = false := decide_eq_false (by omega)
                  have hnd2 := hFA.out.need (by omega)
                  have hnb2 := hnb.out (by omega)
                  have hnn := hnB.out (by omega)
                  have hle : (dl : Int) ≤ need := by have := hdl.out; omega
                  have e2 : decide (4 ≤ (dl : Int)) = true := decide_eq_true (by have := hdl.out; omega)
                  have hno : needOf dd = need := by rw [hdd.out, needOf_append (by omega), hnd2.1]
                  replace hnd2 := Aside0.mk hnd2
                  replace hnn := Aside0.mk hnn
                  replace hno := Aside0.mk hno
                  have h4n : 4 ≤ dl := by have := hdl.out; omega
                  by_cases h5 : (dl : Int) = need
                  · --{
                    have e3 : ((need - (dl : Int)) == 0) = true := beq_iff_eq.2 (by omega)
                    have hqf : Aside0 (feed s (zipAt (rest.take nn) a) = ({ s with data := [], places := [] }, [(dd, pp)])) := Aside0.mk (by rw [body_part hn2 hn1 hP.out.err (by omega) (by have := hdl.out; have := hnd2.out.1; omega), hdd.out, hpp.out])
                    replace h5 := Aside0.mk h5
                    go_wp2_with (first
                      | (go_at_call 21; refine (want_hi g dl cE _ s.most need (a + nn) s.eat s.err _ _ hR5.out.blk h4n (by omega) (by omega)).mono ?_; rintro e w1 ⟨rfl, m, rfl⟩))
                    have hR6 := Aside0.mk (hR5.out.keep (W' := wc.drewN m) (fun _ _ _ => by simp))
                    have hK6 := Aside0.mk (hK5.out.drewN m)
                    have hRz := Aside0.mk (hR6.out.keep (W' := (wc.drewN m).drew) (fun _ _ _ => rfl))
                    have hKz : Aside0 (Kp wr (wc.drewN m).drew (ownOf g (.slice AD s.data.length cD) (.slice AS (segL s.places).length cS))) := Aside0.mk hK6.out.drew
                    have hNz := Aside0.mk (hP.out.outKept hKz.out hO4.out)
                    have hgz : g < (wc.drewN m).drew.heap.size := hRz.out.lt (.inl rfl)
                    have hwz : w.heap.size ≤ (wc.drewN m).drew.heap.size := Nat.le_trans hP.out.kept.1 hKz.out.1
                    obtain ⟨-, v1, v2, -, -, -, -⟩ := cells7 hRz.out.blk
                    clear hR5 hK5
                    refine start_ (n := 17) (S := fun w' => w'.cell? ⟨g, 1, none⟩ = some (.slice (some ⟨b, 0, none⟩) dl cE) ∧ w'.cell? ⟨g, 2, none⟩ = some (.slice (some ⟨b2, 0, none⟩) nS1 cS1)) (ds := [15]) #[false, false, false, false, false, false, false, false, false, false, false, false, false, false, false, false, false] (by kernel_rfl) rfl rfl ⟨v1, v2⟩ (fun hHeld => ?_); refine with_tabW Put.tab22 Put.bits22 (fun HT_ HW_ => ?_)
                    have hCz : (Kd.int .u8).C (wc.drewN m).drew (some ⟨b, 0, none⟩) dl dd := by
                      have := (Kd.R_reads' hRz.out.dat).2.2
                      rwa [hdn.out] at this
                    have hSz : Kd.C k39 (wc.drewN m).drew (some ⟨b2, 0, none⟩) nS1 (segL pp) := by
                      have := (Kd.R_reads' hRz.out.seg).2.2
                      rwa [← hns.out] at this
                    replace hCz := Aside0.mk hCz
                    replace hSz := Aside0.mk hSz
                    clear v1 v2
                    generalize (wc.drewN m).drew = wz at hRz hKz hNz hgz hwz hCz hSz hHeld ⊢
                    refine pure_ (i := 0) (N := some 153) (v := ?_) (a' := ?_) #[true, false, false, false, false, false, false, false, false, false, false, false, false, false, false, false, false] rfl rfl (any_of HT_.out (by kernel_rfl)) (fun _ _ _ h => h) (Or.inl ⟨by rfl, ?_⟩) ?_ ?_
                    rotate_left
                    · intro w'
                      go_simp
                      with_reducible rfl
                    rotate_left
                    · simp only [Act.put, List.setIfInBounds_toArray, List.set_cons_zero, List.set_cons_succ, i64_w, i32_w]
                      rfl
                    refine pure_ (i := 1) (N := some 154) (v := ?_) (a' := ?_) #[true, true, false, false, false, false, false, false, false, false, false, false, false, false, false, false, false] rfl rfl (any_of HT_.out (by kernel_rfl)) (fun _ _ _ h => h) (Or.inl ⟨by rfl, ?_⟩) ?_ ?_
                    rotate_left
                    · intro w'
                      go_simp
                      with_reducible rfl
                    rotate_left
                    · simp only [Act.put, List.setIfInBounds_toArray, List.set_cons_zero, List.set_cons_succ, i64_w, i32_w]
                      rfl
                    refine pure_ (i := 2) (N := some 155) (v := ?_) (a' := ?_) #[true, true, true, false, false, false, false, false, false, false, false, false, false, false, false, false, false] rfl rfl (any_of HT_.out (by kernel_rfl)) (fun _ _ _ h => h) (Or.inl ⟨by rfl, ?_⟩) ?_ ?_
                    rotate_left
                    · intro w'
                      go_simp
                      with_reducible rfl
                    rotate_left
                    · simp only [Act.put, List.setIfInBounds_toArray, List.set_cons_zero, List.set_cons_succ, i64_w, i32_w]
                      rfl
                    refine pure_ (i := 3) (N := some 156) (v := ?_) (a' := ?_) #[true, true, true, true, false, false, false, false, false, false, false, false, false, false, false, false, false] rfl rfl (any_of HT_.out (by kernel_rfl)) (fun _ _ _ h => h) (Or.inl ⟨by rfl, ?_⟩) ?_ ?_
                    rotate_left
                    · intro w'
                      go_simp
                      with_reducible rfl
                    rotate_left
                    · simp only [Act.put, List.setIfInBounds_toArray, List.set_cons_zero, List.set_cons_succ, i64_w, i32_w]
                      rfl
                    refine pure_ (i := 4) (N := some 157) (v := ?_) (a' := ?_) #[true, true, true, true, true, false, false, false, false, false, false, false, false, false, false, false, false] rfl rfl (any_of HT_.out (by kernel_rfl)) (fun _ _ _ h => h) (Or.inl ⟨by rfl, ?_⟩) ?_ ?_
                    rotate_left
                    · intro w'
                      go_simp
                      with_reducible rfl
                    rotate_left
                    · simp only [Act.put, List.setIfInBounds_toArray, List.set_cons_zero, List.set_cons_succ, i64_w, i32_w]
                      rfl
                    refine pure_ (i := 7) (N := some 160) (v := ?_) (a' := ?_) #[true, true, true, true, true, false, false, true, false, false, false, false, false, false, false, false, false] rfl rfl (any_of HT_.out (by kernel_rfl)) (fun _ _ _ h => h) (Or.inl ⟨by rfl, ?_⟩) ?_ ?_
                    rotate_left
                    · intro w'
                      go_simp
                      with_reducible rfl
                    rotate_left
                    · simp only [Act.put, List.setIfInBounds_toArray, List.set_cons_zero, List.set_cons_succ, i64_w, i32_w]
                      rfl
                    refine pure_ (i := 8) (N := some 161) (v := ?_) (a' := ?_) #[true, true, true, true, true, false, false, true, true, false, false, false, false, false, false, false, false] rfl rfl (any_of HT_.out (by kernel_rfl)) (fun _ _ _ h => h) (Or.inl ⟨by rfl, ?_⟩) ?_ ?_
                    rotate_left
                    · intro w'
                      go_simp
                      with_reducible rfl
                    rotate_left
                    · simp only [Act.put, List.setIfInBounds_toArray, List.set_cons_zero, List.set_cons_succ, i64_w, i32_w]
                      rfl
                    refine pure_ (i := 9) (N := some 162) (v := ?_) (a' := ?_) #[true, true, true, true, true, false, false, true, true, true, false, false, false, false, false, false, false] rfl rfl (any_of HT_.out (by kernel_rfl)) (fun _ _ _ h => h) (Or.inl ⟨by rfl, ?_⟩) ?_ ?_
                    rotate_left
                    · intro w'
                      go_simp
                      with_reducible rfl
                    rotate_left
                    · simp only [Act.put, List.setIfInBounds_toArray, List.set_cons_zero, List.set_cons_succ, i64_w, i32_w]
                      rfl
                    refine pure_ (i := 10) (N := some 163) (v := ?_) (a' := ?_) #[true, true, true, true, true, false, false, true, true, true, true, false, false, false, false, false, false] rfl rfl (any_of HT_.out (by kernel_rfl)) (fun _ _ _ h => h) (Or.inl ⟨by rfl, ?_⟩) ?_ ?_
                    rotate_left
                    · intro w'
                      go_simp
                      with_reducible rfl
                    rotate_left
                    · simp only [Act.put, List.setIfInBounds_toArray, List.set_cons_zero, List.set_cons_succ, i64_w, i32_w]
                      rfl
                    refine take_ (i := 5) (N := some 158) (v := ?_) (a' := ?_) #[true, true, true, true, true, true, false, true, true, true, true, false, false, false, false, false, false] rfl rfl (take_ofW HT_.out HW_.out (by kernel_rfl)) (fun _ _ _ h => h) (Or.inl ⟨by rfl, ?_⟩) hHeld ?_ ?_
                    rotate_left
                    · rintro w' ⟨s0, s1⟩
                      go_simp
                      with_reducible rfl
                    rotate_left
                    · simp only [Act.put, List.setIfInBounds_toArray, List.set_cons_zero, List.set_cons_succ, i64_w, i32_w]
                      rfl
                    refine take_ (i := 11) (N := some 164) (v := ?_) (a' := ?_) #[true, true, true, true, true, true, false, true, true, true, true, true, false, false, false, false, false] rfl rfl (take_ofW HT_.out HW_.out (by kernel_rfl)) (fun _ _ _ h => h) (Or.inl ⟨by rfl, ?_⟩) hHeld ?_ ?_
                    rotate_left
                    · rintro w' ⟨s0, s1⟩
                      go_simp
                      with_reducible rfl
                    rotate_left
                    · simp only [Act.put, List.setIfInBounds_toArray, List.set_cons_zero, List.set_cons_succ, i64_w, i32_w]
                      rfl
                    refine one_ (i := 6) (N := some 159) #[true, true, true, true, true, true, true, true, true, true, true, true, false, false, false, false, false] rfl rfl (one_of HT_.out (by kernel_rfl)) (by decide) (fun K hK => ?_)
                    refine goes_ Try.func23 (by kernel_rfl) rfl #[.slice (some ⟨b, 0, none⟩) dl cE] (by rfl) rfl rfl (by simp only [List.map_toArray, List.map_cons, List.map_nil]; rfl) ?_
                    with_reducible refine (bytes_clone2 _ ⟨b, 0, none⟩ dl cE dd hdm hCz.out).mono ?_
                    rintro e wA ⟨AA, cA, rfl, hcA, hbA, hrA⟩
                    refine ⟨_, rfl, ?_⟩
                    have hgA := Nat.lt_of_lt_of_le hgz hbA.size
                    replace hrA := Aside0.mk hrA
                    refine hK.out _ _ ⟨(hbA.cell (p := ⟨g, 1, none⟩) hgz).trans hHeld.1, (hbA.cell (p := ⟨g, 2, none⟩) hgz).trans hHeld.2⟩ (fun hHeld => ?_)
                    clear hK K
                    refine norm_ (a' := ?_) ?_ ?_
                    rotate_left
                    · show Act.put _ (some 159) _ = _
                      simp only [Act.put, List.setIfInBounds_toArray, List.set_cons_zero, List.set_cons_succ, i64_w, i32_w]
                      rfl
                    refine one_ (i := 12) (N := some 165) #[true, true, true, true, true, true, true, true, true, true, true, true, true, false, false, false, false] rfl rfl (one_of HT_.out (by kernel_rfl)) (by decide) (fun K hK => ?_)
                    refine goes_ Try.func24 (by kernel_rfl) rfl #[.slice (some ⟨b2, 0, none⟩) nS1 cS1] (by rfl) rfl rfl (by simp only [List.map_toArray, List.map_cons, List.map_nil]; rfl) ?_
                    with_reducible refine (segs_clone2 _ ⟨b2, 0, none⟩ nS1 cS1 (segL pp) hns2 (Kd.C_below hSz.out hbA)).mono ?_
                    rintro e wB ⟨AB, cB, rfl, hcB, hbB, hrB⟩
                    refine ⟨_, rfl, ?_⟩
                    replace hrB := Aside0.mk hrB
                    refine hK.out _ _ ⟨(hbB.cell (p := ⟨g, 1, none⟩) hgA).trans hHeld.1, (hbB.cell (p := ⟨g, 2, none⟩) hgA).trans hHeld.2⟩ (fun hHeld => ?_)
                    clear hK K
                    refine norm_ (a' := ?_) ?_ ?_
                    rotate_left
                    · show Act.put _ (some 165) _ = _
                      simp only [Act.put, List.setIfInBounds_toArray, List.set_cons_zero, List.set_cons_succ, i64_w, i32_w]
                      rfl
                    refine pure_ (i := 13) (N := some 166) (v := ?_) (a' := ?_) #[true, true, true, true, true, true, true, true, true, true, true, true, true, true, false, false, false] rfl rfl (any_of HT_.out (by kernel_rfl)) (fun _ _ _ h => h) (Or.inl ⟨by rfl, ?_⟩) ?_ ?_
                    rotate_left
                    · intro w'
                      go_simp
                      with_reducible rfl
                    rotate_left
                    · simp only [Act.put, List.setIfInBounds_toArray, List.set_cons_zero, List.set_cons_succ, i64_w, i32_w]
                      rfl
                    refine one_ (i := 14) (N := some 167) #[true, true, true, true, true, true, true, true, true, true, true, true, true, true, true, false, false] rfl rfl (one_of HT_.out (by kernel_rfl)) (by decide) (fun K hK => ?_)
                    refine value_ (w1 := ?_) (v := ?_) (by rfl) rfl ?_ ?_
                    rotate_left 2
                    · go_simp
                      constructor
                      · rfl
                      · rfl
                    refine hK.out _ _ ⟨(World.cell?_alloc_lt _ _ _ (World.block_lt_of_cell? _ _ hHeld.1)).trans hHeld.1, (World.cell?_alloc_lt _ _ _ (World.block_lt_of_cell? _ _ hHeld.2)).trans hHeld.2⟩ (fun hHeld => ?_)
                    clear hK K
                    refine norm_ (a' := ?_) ?_ ?_
                    rotate_left
                    · show Act.put _ (some 167) _ = _
                      simp only [Act.put, List.setIfInBounds_toArray, List.set_cons_zero, List.set_cons_succ, i64_w, i32_w]
                      rfl
                    refine last_ (i := 15) (N := some 168) #[true, true, true, true, true, true, true, true, true, true, true, true, true, true, true, true, false] rfl rfl (one_of HT_.out (by kernel_rfl)) (by decide) (fun K hK => ?_)
                    have hbAB := hbA.trans (hbB.mono hbA.size)
                    have hokp : ∀ k, wz.heap.size ≤ k → (w.heap.size ≤ k ∧ ¬ ownOf g (.slice (some ⟨b, 0, none⟩) dl cE) (.slice (some ⟨b2, 0, none⟩) nS1 cS1) k) ∧ some k ≠ u9.ownBlock := fun k hk => ⟨⟨Nat.le_trans hwz hk, fun h3 => by have := hRz.out.lt h3; omega⟩, fun h3 => by have := Kd.N_lt hNz.out k h3.symm; omega⟩
                    refine Kd.N_append_step k37 (w0 := wz) w.heap.size (by rfl) (.tmp 153) (.tmp 167) 30 37 (.agg #[.slice none 0 0, .slice none 0 0]) 48 rfl Try.underlying30 foundInfo rfl (by decide) (by decide) u9 (outs.map foundOf) (foundOf (dd, pp)) [.slice AA dl cA, .slice AB nS1 cB] (fun k => w.heap.size ≤ k ∧ ¬ ownOf g (.slice (some ⟨b, 0, none⟩) dl cE) (.slice (some ⟨b2, 0, none⟩) nS1 cS1) k) (fun k => wz.heap.size ≤ k) rfl rfl (found_FK (Kd.R_below hrA.out hbB) (Kd.R_mono hrB.out (fun k hk => Nat.le_trans hbA.size hk))) hokp (fun k hk => (hokp k (Nat.le_trans hbAB.size hk)).1) (Kd.N_below hNz.out hbAB) (hbAB.mono hwz) (Nat.le_trans hwz hbAB.size) (by rw [List.length_map]; have := hP.out.num; omega) ?_
                    intro v3 w3 ho hb3 hg3 hat3
                    have hR3 := Aside0.mk (hRz.out.keep (W' := w3) (fun k hk hlt => (hg3.block k (Nat.lt_of_lt_of_le hlt hbAB.size) (fun e => (hNz.out.1 k e.symm).2 hk)).trans (hbAB.block k hlt)))
                    have hK3 := Aside0.mk (Kp.of_grown hg3 ((hP.out.kept.then_ hKz.out hP.out.own).below hbAB) (fun k hk => .inr (Kd.N_base hNz.out k hk)))
                    have hN3 := Aside0.mk ho
                    obtain ⟨t0, t1, t2, t3, t4, t5, t6⟩ := cells7 hR3.out.blk
                    have tf1 := live7 hR3.out.blk 1
                    have tf2 := live7 hR3.out.blk 2
                    clear ho hb3 hg3 hat3 hokp hbAB
                    refine hK.out _ _ ?_
                    clear hK K
                    refine norm_ (a' := ?_) ?_ ?_
                    rotate_left
                    · show Act.put _ (some 168) _ = _
                      simp only [Act.put, List.setIfInBounds_toArray, List.set_cons_zero, List.set_cons_succ, i64_w, i32_w]
                      rfl
                    refine pure_ (i := 16) (N := some 9) (v := ?_) (a' := ?_) #[true, true, true, true, true, true, true, true, true, true, true, true, true, true, true, true, true] rfl rfl (any_of HT_.out (by kernel_rfl)) (fun _ _ _ h => h) (Or.inl ⟨by rfl, ?_⟩) ?_ ?_
                    rotate_left
                    · intro w'
                      go_simp
                      with_reducible rfl
                    rotate_left
                    · simp only [Act.put, List.setIfInBounds_toArray, List.set_cons_zero, List.set_cons_succ, i64_w, i32_w]
                      rfl
                    refine done_ (done_of HT_.out (by kernel_rfl)) ?_
                    try go_wp2
                    go_roundw
                    case rel =>
                      refine ⟨a + nn, A2, c2, r2, { s with data := [], places := [] }, .slice none 0 0, .slice none 0 0, outs ++ [(dd, pp)], rfl, rfl, ?_⟩
                      rw [hA3.out, hc2.out, hr2.out]
                      have hG := hR3.out.gone
                      exact hP.out.next (s1 := { s with data := [], places := [] }) (o1 := [(dd, pp)]) hn2 hqf.out hP.out.err ⟨need, a + nn, hG.1, fits_none hFA.out need s.eat s.err s.most⟩ (hK3.out.then_ hG.2.1 (fun k hk => hP.out.own2 hO4.out k hk)) (fun k hk => hP.out.own2 hO4.out k (hG.2.2 k hk))
                        (by rw [List.map_append]; exact Kd.N_mono (Kd.N_kept hN3.out hG.2.1.kept (fun k hk => hk.2)) (fun k hk => ⟨hk.1, fun h3 => hk.2 (hG.2.2 k h3)⟩)) (Nat.zero_le _) hn1
                    case measure => exact hms.out
                    --}
                  · have e3 : ((need - (dl : Int)) == 0) = false := beq_eq_false_iff_ne.2 (by omega)
                    have hqf : Aside0 (feed s (zipAt (rest.take nn) a) = ({ s with data := dd, places := pp }, [])) := Aside0.mk (by rw [quiet_part hn2 hP.out.err (.inr ⟨by omega, by have := hdl.out; have := hnd2.out.1; omega⟩), hdd.out, hpp.out])
                    have hIs : Aside0 (HandIs wc B g (.slice (some ⟨b, 0, none⟩) dl cE) (.slice (some ⟨b2, 0, none⟩) nS1 cS1) { s with data := dd, places := pp }) := Aside0.mk ⟨need, a + nn, hR5.out, hFm.out need (fun h => ⟨hno.out.symm, by rw [hno.out]; omega⟩)⟩
                    go_wp2_with (first
                      | (go_at_call 21; refine (want_hi g dl cE _ s.most need (a + nn) s.eat s.err _ _ hR5.out.blk h4n (by omega) (by omega)).mono ?_; rintro e w1 ⟨rfl, m, rfl⟩))
                    have hIs2 := Aside0.mk (hIs.out.keep (W' := wc.drewN m) (fun _ _ _ => by simp))
                    have hK6 := Aside0.mk (hK5.out.drewN m)
                    go_roundw
                    case rel =>
                      refine ⟨a + nn, A2, c2, r2, { s with data := dd, places := pp }, (.slice (some ⟨b, 0, none⟩) dl cE), (.slice (some ⟨b2, 0, none⟩) nS1 cS1), outs ++ [], rfl, rfl, ?_⟩
                      rw [hA3.out, hc2.out, hr2.out]
                      exact hP.out.next (s1 := { s with data := dd, places := pp }) (o1 := []) hn2 hqf.out hP.out.err hIs2.out (hP.out.kept.then_ hK6.out hP.out.own) (hP.out.own2 hO4.out) (by rw [List.append_nil]; exact hP.out.outKept hK6.out hO4.out) (by show dd.length ≤ _; rw [hdn.out, hdl.out]; exact Nat.le_refl _) (Nat.zero_le _)
                    case measure => exact hms.out
end Go.Proofs.Ytmdmllfbdpoeeaa
