/- The law LegalLess returns true: of extensions of which nothing is wrong any but one are all right, if the last one stays; the numbers are ints. -/
import Derived.Test.YtpndiobbogelpaaPureLegalLess
import Derived.Test.YtpndiobbogelpaaHChkLaws
import Derived.Deep.RegionLaw
import Derived.BigQuiet
import Derived.IntWalk
namespace Go.Proofs.Ytpndiobbogelpaa
open Go Go.RowKit Go.Maps Go.Proofs.Hand Go.Proofs.Ytpndiobbogelpaa.PLegalLess Go.Proofs.Ytpndiobbogelpaa.Pure Go.Proofs.YtpndiobbogelpaaW.PrintWords Go.Proofs.YtpndiobbogelpaaW.PrintLast Go.Proofs.YtpndiobbogelpaaW.PrintMore
set_option maxRecDepth 100000

theorem extHeap : Kd.Heap k38 := Kd.heap_iso _ (Kd.heap_pair (Kd.heap_int _) (Kd.heap_slice _ (Kd.heap_int _)))
/-- What came in stays as it is while only newer blocks are turned. -/
theorem foot_in {W : World} {A : Option Addr} {n : Nat} {l : List S38} (h : Kd.C k38 W A n l) : Kd.F k38 W (fun k => k < W.heap.size) A n l := fun W' hW => extHeap.C (fun k hk => hW k hk hk) h
theorem extInfo : (Try.prog.info? 38).map (fun i => (i.zero, i.size, i.bytes)) = some (some (.agg #[.int .i64 0, .slice none 0 0]), 2, 32) := by kernel_rfl
theorem index_mod (a : Int) (n : Nat) (hn : 2 ≤ n) (hm : n ≤ 1000) : ∃ i : Nat, i + 1 < n ∧ wrap64 ((IntKind.u64.wrap a).tmod ((n : Int) - 1)) = (i : Int) := by
  have h0 : 0 ≤ IntKind.u64.wrap a := by
    rw [IntKind.wrap_u64]
    omega
  refine ⟨((IntKind.u64.wrap a).tmod ((n : Int) - 1)).toNat, ?_, ?_⟩
  · have h1 := Int.tmod_lt_of_pos (IntKind.u64.wrap a) (show (0 : Int) < (n : Int) - 1 by omega)
    have h2 := Int.tmod_nonneg ((n : Int) - 1) h0
    omega
  · have h1 := Int.tmod_lt_of_pos (IntKind.u64.wrap a) (show (0 : Int) < (n : Int) - 1 by omega)
    have h2 := Int.tmod_nonneg ((n : Int) - 1) h0
    rw [IntWalk.wrap64_in _ ⟨by omega, by omega⟩]
    omega
theorem emptyN (W : World) : Kd.N k38 38 (W.alloc (.cells #[] 38)) W.heap.size (fun k => W.heap.size ≤ k) (.slice (some ⟨W.heap.size, 0, none⟩) 0 0) [] := by
  refine Kd.R_N ⟨fun k hk => ?_, [], World.ownsRow_made W #[] 0 (Nat.le_refl _) (by decide) rfl, ⟨rfl, fun j p h => by simp at h⟩⟩
  have : W.heap.size = k := by simpa [Value.ownBlock] using hk
  omega
set_option maxHeartbeats 8000000 in
theorem LegalLess_walk (a0 : Int) (A1 : Option Addr) (c1 : Nat) (l1 : List S38) (a2 : Int) (w : World) (w0 : (Lit.int .i64 a0).wf = true) (hC : Kd.C k38 w A1 l1.length l1) (hc : l1.length ≤ c1) (hw : ∀ x ∈ l1, (Lit.int .i64 x.f0).wf = true ∧ ∀ n ∈ x.f1, (Lit.int .u8 n).wf = true) (w2 : (Lit.int .i64 a2).wf = true) :
    Calls Try.prog 5 #[.int .i64 a0, .slice A1 l1.length c1, .int .i64 a2] w fun e w' => e = .returned (.bool true) ∧ Below w.heap.size w w' := by
  have hal := Aside0.mk (alive_true 20 (Nat.le_refl _))
  replace hC := Aside0.mk hC
  by_cases g1 : 500 < l1.length
  · have k1 : decide ((500 : Int) < (l1.length : Int)) = true := decide_eq_true (by omega)
    go_enter Try.func5, Try.ntmps5
    go_wp2_with (first
      | (go_at_call 9; refine (passepartoutlaw14_alive.calls _ true _ hal.out).mono ?_; rintro e w1 ⟨rfl, hb1⟩))
    go_ret
    exact ⟨rfl, hb1⟩
  have k1 : decide ((500 : Int) < (l1.length : Int)) = false := decide_eq_false (by omega)
  by_cases g2 : l1.length < 2
  · have k2 : decide ((l1.length : Int) < 2) = true := decide_eq_true (by omega)
    go_enter Try.func5, Try.ntmps5
    go_wp2_with (first
      | (go_at_call 9; refine (passepartoutlaw14_alive.calls _ true _ hal.out).mono ?_; rintro e w1 ⟨rfl, hb1⟩))
    go_ret
    exact ⟨rfl, hb1⟩
  have k2 : decide ((l1.length : Int) < 2) = false := decide_eq_false (by omega)
  have hok : chkOk a0 l1 = true := by
    simp only [chkOk, Bool.and_eq_true]
    exact ⟨⟨w0, Nat.ble_eq_true_of_le (by omega)⟩, List.all_eq_true.2 fun x hx => (hw x hx).1⟩
  obtain ⟨R, hR⟩ : ∃ R, R = (if placeB a0 = true then chk a0 [] 0 l1 else (0, 2)) := ⟨_, rfl⟩
  have hf : Aside0 (legal_Check.f a0 l1 = some R) := Aside0.mk (by unfold legal_Check.f; rw [if_pos hok, hR])
  obtain ⟨R1, R2⟩ := R
  by_cases g3 : R2 = 0
  · subst g3
    have hp : placeB a0 = true := by
      cases h : placeB a0
      · rw [h] at hR; simp at hR
      · rfl
    rw [hp, if_pos rfl] at hR
    obtain ⟨ad, A9, c9, rfl, -⟩ := at_T38 hC.out 0 (by omega) (by omega)
    obtain ⟨i, hi, hidx⟩ := index_mod a2 l1.length (by omega) (by omega)
    go_enter Try.func5, Try.ntmps5
    go_wp2_with (first
      | (go_at_call 10; refine (legal_Check.calls a0 (some ad) c1 l1 R1 0 _ hC.out hc hf.out).mono ?_; rintro e w1 ⟨rfl, hb1⟩))
    rw [hidx]
    have hcl : (l1.length : Int) ≤ (c1 : Int) := by omega
    have pi : (0 : Int) ≤ (i : Int) := by omega
    have qi : (i : Int) + 1 < (l1.length : Int) := by omega
    have ui : (i : Int) ≤ (c1 : Int) := by omega
    have vi : (0 : Int) ≤ (i : Int) + 1 := by omega
    have xi : (i : Int) + 1 ≤ (l1.length : Int) := by omega
    have wi : IntKind.i64.wrap ((i : Int) + 1) = (i : Int) + 1 := by rw [IntWalk.i64_left, IntWalk.wrap64_in _ ⟨by omega, by omega⟩]
    have hF : Kd.F k38 w1 (fun k => k < w.heap.size) (some ad) l1.length l1 := Kd.F_step (foot_in hC.out) (fun k hk _ => hb1.block k hk)
    have hF1 : Kd.F k38 w1 (fun k => k < w.heap.size) (some ad) i (l1.take i) := by
      have := Kd.F_take hF (m := i) (by omega)
      rwa [List.length_take, Nat.min_eq_left (by omega)] at this
    replace hF := Aside0.mk hF
    replace hF1 := Aside0.mk hF1
    have hs1 := hb1.size
    have hF2 : Kd.F k38 w1 (fun k => k < w.heap.size) (if c1 = i + 1 then some ad else some (ad.add ((i + 1) * 2))) (l1.length - (i + 1)) (l1.drop (i + 1)) := by
      have := Kd.F_imp hF.out (fun _ hC => Kd.C_drop hC (m := i + 1) (by omega) hc)
      rw [List.length_drop] at this
      exact this
    replace hF2 := Aside0.mk hF2
    have HB1 := Aside0.mk (Below.refl w1.heap.size w1)
    go_region_law (first | (refine Kd.N_append_rows_step k38 (w0 := w1) w1.heap.size (by rfl) (.tmp 39) (.tmp 42) 22 38 (.agg #[.int .i64 0, .slice none 0 0]) 32 rfl Try.underlying22 extInfo rfl (by decide) (by decide) (.slice (some ⟨w1.heap.size, 0, none⟩) 0 0) [] (l1.take i) (some ad) i c1 (fun k => k < w.heap.size ∨ w1.heap.size ≤ k) (fun k => k < w.heap.size) rfl rfl (by (with_reducible repeat (first | apply Kd.N_drewN | apply Kd.N_drew)); exact Kd.N_mono (emptyN w1) (fun k hk => .inr hk)) (by (with_reducible repeat (first | apply Kd.F_alloc | apply Kd.F_drewN | apply Kd.F_drew)); exact hF1.out) (fun k hk => ⟨.inl hk, fun he => by have h3 : k = w1.heap.size := (by simpa [Value.ownBlock] using he); omega⟩) (fun k hk => .inr (by simp at hk; omega)) (by repeat (first | (with_reducible first | exact HB1.out | apply below_alloc | apply pw_below_drewN | apply below_drew1) | exact HB1.out)) (by simp) (by simp; omega) ?_; intro v3 w3 hN3 hB3 hg3 hat3) | (refine Kd.N_append_rows_step k38 (w0 := w1) w1.heap.size (by rfl) (.tmp 43) (.tmp 47) 22 38 (.agg #[.int .i64 0, .slice none 0 0]) 32 rfl Try.underlying22 extInfo rfl (by decide) (by decide) v3 (l1.take i) (l1.drop (i + 1)) (if c1 = i + 1 then some ad else some (ad.add ((i + 1) * 2))) (l1.length - (i + 1)) (c1 - (i + 1)) (fun k => k < w.heap.size ∨ w1.heap.size ≤ k) (fun k => k < w.heap.size) rfl rfl (by (with_reducible repeat (first | apply Kd.N_drewN | apply Kd.N_drew)); exact hN3) (by (with_reducible repeat (first | apply Kd.F_alloc | apply Kd.F_drewN | apply Kd.F_drew)); exact Kd.F_step hF2.out (fun k hk _ => hB3.block k (by omega))) (fun k hk => ⟨.inl hk, fun he => by have h3 := Kd.N_base hN3 k he.symm; omega⟩) (fun k hk => .inr (by have h4 := hB3.size; have h5 : w3.heap.size ≤ k := hk; omega)) (by repeat (first | (with_reducible first | exact hB3 | apply below_alloc | apply pw_below_drewN | apply below_drew1) | exact hB3)) hB3.size (by rw [List.length_take]; omega) ?_; intro v4 w4 hN4 hB4 hg4 hat4; generalize hLd : l1.take i ++ l1.drop (i + 1) = L at hN4; obtain ⟨A4, c4, rfl, hc4, hC4⟩ := Kd.N_reads hN4))
    all_goals
      have hf2 : Aside0 (legal_Check.f a0 L = some (0, 0)) := Aside0.mk (by
        rw [← hLd]
        have h1 : (chk a0 [] 0 l1).2 = 0 := by rw [← hR]
        have h2 := chk_zero a0 _ _ _ (chk_del a0 l1 i [] 0 0 hi h1)
        unfold legal_Check.f
        rw [if_pos (chkOk_del hok i), if_pos hp, h2])
      have hB4' := Aside0.mk (hb1.trans (hB4.mono hs1))
      replace hC4 := Aside0.mk hC4
      clear hLd hN3 hB3 hg3 hat3 hN4 hB4 hg4 hat4 hF hF1 hF2 HB1
      go_wp2_with (first
        | (go_at_call 10; refine (legal_Check.calls a0 A4 c4 L 0 0 _ hC4.out hc4 hf2.out).mono ?_; rintro e w5 ⟨rfl, hb5⟩; replace hB4' := Aside0.mk (hB4'.out.trans (hb5.mono hB4'.out.size)))
        | (go_at_call 9; refine (passepartoutlaw14_alive.calls _ true _ hal.out).mono ?_; rintro e w6 ⟨rfl, hb6⟩; replace hB4' := Aside0.mk (hB4'.out.trans (hb6.mono hB4'.out.size))))
      go_ret
      exact ⟨rfl, hB4'.out⟩
  · have k3 : (R2 != 0) = true := by simpa using g3
    go_enter Try.func5, Try.ntmps5
    go_wp2_with (first
      | (go_at_call 10; refine (legal_Check.calls a0 A1 c1 l1 R1 R2 _ hC.out hc hf.out).mono ?_; rintro e w1 ⟨rfl, hb1⟩)
      | (go_at_call 9; refine (passepartoutlaw14_alive.calls _ true _ hal.out).mono ?_; rintro e w2 ⟨rfl, hb2⟩))
    go_ret
    exact ⟨rfl, hb1.trans (hb2.mono hb1.size)⟩
end Go.Proofs.Ytpndiobbogelpaa
