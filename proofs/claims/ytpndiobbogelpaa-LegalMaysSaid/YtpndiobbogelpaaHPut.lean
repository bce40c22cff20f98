/- The Go method shape.table.put lays a form into the map under each place and type; the numbers are ints, the entries at most 1000. -/
import Derived.Test.YtpndiobbogelpaaHShapeB
namespace Go.Proofs.Ytpndiobbogelpaa
open Go Go.RowKit Go.Maps Go.Proofs.Hand Go.Proofs.YtpndiobbogelpaaW.PrintWords Go.Proofs.YtpndiobbogelpaaW.PrintLast Go.Proofs.YtpndiobbogelpaaW.PrintMore
set_option maxRecDepth 100000

/-- The entries that are laid, the last one first: for each type each place. -/
def rowEnts (k : Int) (ps : List Int) (f : Form) : List ((Int × Int) × Form) := (ps.map fun p => ((p, k), f)).reverse
def putEnts : List Int → List Int → Form → List ((Int × Int) × Form)
  | [], _, _ => []
  | k :: ks, ps, f => putEnts ks ps f ++ rowEnts k ps f
theorem putEnts_snoc (k : Int) (ps : List Int) (f : Form) : ∀ ks : List Int, putEnts (ks ++ [k]) ps f = rowEnts k ps f ++ putEnts ks ps f
  | [] => by simp [putEnts]
  | x :: ks => by
    rw [List.cons_append]
    simp only [putEnts]
    rw [putEnts_snoc k ps f ks, List.append_assoc]
theorem rowEnts_snoc (k p : Int) (ps : List Int) (f : Form) : rowEnts k (ps ++ [p]) f = ((p, k), f) :: rowEnts k ps f := by simp [rowEnts]
theorem rowEnts_length (k : Int) (ps : List Int) (f : Form) : (rowEnts k ps f).length = ps.length := by simp [rowEnts]
theorem putEnts_length (ps : List Int) (f : Form) : ∀ ks : List Int, (putEnts ks ps f).length = ks.length * ps.length
  | [] => by simp [putEnts]
  | k :: ks => by
    simp only [putEnts, List.length_append, putEnts_length ps f ks, rowEnts_length, List.length_cons]
    rw [Nat.add_mul, Nat.one_mul]
theorem take_next (l : List Int) (j : Nat) (h : j < l.length) : l.take (j + 1) = l.take j ++ [rd l (j : Int)] := by
  rw [List.take_succ_eq_append_getElem h]
  simp [rd, h]

set_option maxRecDepth 100000 in
set_option maxHeartbeats 2000000 in
theorem put_walk (W : World) (ms : List (Nat × Nat)) (m : Nat) (l0 : List ((Int × Int) × Form)) (f : Form) (cs : List Value) (ks ps : List Int) (A B : Option Addr) (c d : Nat)
    (hms : ∀ t k, (t, k) ∈ ms → k < W.heap.size) (hm : (tabSlot, m) ∈ ms) (hT : TabAt keysSpot W ms m l0.length (look keysSpot l0)) (hf : Kd.FK kForm W (fun k => ¬ inM ms k) f cs)
    (hA : Kd.F (Kd.int .i64) W (fun k => ¬ inM ms k) A ks.length ks) (hB : Kd.F (Kd.int .i64) W (fun k => ¬ inM ms k) B ps.length ps)
    (hk : ∀ k ∈ ks, (Lit.int .i64 k).wf = true) (hp : ∀ p ∈ ps, (Lit.int .i64 p).wf = true) (hsmall : ks.length * ps.length + l0.length ≤ 1000) (hks : ks.length ≤ 1000) (hps : ps.length ≤ 1000) :
    Calls Try.prog 44 #[.map (some m), .agg cs.toArray, .slice A ks.length c, .slice B ps.length d] W fun e W' => ∃ v, e = .returned v ∧ But m W W' ∧ TabAt keysSpot W' ms m (putEnts ks ps f ++ l0).length (look keysSpot (putEnts ks ps f ++ l0)) := by
  obtain ⟨A5, c5, rfl, -, -⟩ := k53_openF hf
  have hmlt := hms _ _ hm
  have hblk := heap_at W (.cells #[.int .i64 f.f0, .int .i64 f.f1, .int .i64 f.f2, .int .i64 f.f3, .int .i64 f.f4, .slice A5 f.f5.length c5] 53) W.heap.size rfl
  replace hT := Aside0.mk hT
  replace hf := Aside0.mk hf
  replace hA := Aside0.mk hA
  replace hB := Aside0.mk hB
  replace hblk := Aside0.mk hblk
  replace hk := Aside0.mk hk
  replace hp := Aside0.mk hp
  replace hms := Aside0.mk hms
  replace hm := Aside0.mk hm
  go_enter Try.func44, Try.ntmps44
  go_wp2
  go_loopw [14] (fun x wr => ∃ j : Nat, j ≤ ks.length ∧ x = .int .i64 (j : Int) ∧ But m (W.alloc (.cells #[.int .i64 f.f0, .int .i64 f.f1, .int .i64 f.f2, .int .i64 f.f3, .int .i64 f.f4, .slice A5 f.f5.length c5] 53)) wr ∧ TabAt keysSpot wr ms m (putEnts (ks.take j) ps f ++ l0).length (look keysSpot (putEnts (ks.take j) ps f ++ l0)))
    (fun x _ => ks.length - (intOf x).toNat)
  case atStart =>
    refine ⟨0, Nat.zero_le _, rfl, But.of_below (Below.refl _ _), ?_⟩
    have hb := ((Below.refl W.heap.size W).alloc (Nat.le_refl _) (.cells #[.int .i64 f.f0, .int .i64 f.f1, .int .i64 f.f2, .int .i64 f.f3, .int .i64 f.f4, .slice A5 f.f5.length c5] 53))
    exact hT.out.step (hb.block m hmlt) (fun k hk _ => hb.block k hk) (fun _ _ h => h)
  case round =>
    obtain ⟨j, hj, rfl, hbut, htab⟩ := hrel
    have hkeep : ∀ w2, But m (W.alloc (.cells #[.int .i64 f.f0, .int .i64 f.f1, .int .i64 f.f2, .int .i64 f.f3, .int .i64 f.f4, .slice A5 f.f5.length c5] 53)) w2 → ∀ k, k < W.heap.size → ¬ inM ms k → w2.heap[k]? = W.heap[k]? := fun w2 h2 k hk hn =>
      (h2.block k (by rw [World.size_alloc]; omega) (fun e => hn ⟨_, e ▸ hm.out⟩)).trans (Below.heap_alloc W _ k hk)
    have hbox : ∀ w2, But m (W.alloc (.cells #[.int .i64 f.f0, .int .i64 f.f1, .int .i64 f.f2, .int .i64 f.f3, .int .i64 f.f4, .slice A5 f.f5.length c5] 53)) w2 → w2.heap[W.heap.size]? = some (.cells #[.int .i64 f.f0, .int .i64 f.f1, .int .i64 f.f2, .int .i64 f.f3, .int .i64 f.f4, .slice A5 f.f5.length c5] 53 (0, 0)) := fun w2 h2 =>
      (h2.block W.heap.size (by rw [World.size_alloc]; omega) (by omega)).trans hblk.out
    replace hkeep := Aside0.mk hkeep
    replace hbox := Aside0.mk hbox
    replace htab := Aside0.mk htab
    by_cases hlt : j < ks.length
    · have hC := Kd.F_now (Kd.F_step (Kd.F_bound hA.out) (fun k hk _ => hkeep.out wr hbut k hk.2 hk.1))
      have p0 : (0 : Int) ≤ (j : Int) := by omega
      have q0 : (j : Int) < (ks.length : Int) := by omega
      obtain ⟨ad, e0, hx0⟩ := Kd.at_int hC (j : Int) p0 q0
      cases e0
      rw [Int.toNat_natCast] at hx0
      have hkw : (Lit.int .i64 (rd ks (j : Int))).wf = true := hk.out _ (by simp [rd, hlt])
      replace hkw := Aside0.mk hkw
      replace hC := Aside0.mk hC
      go_wp2
      go_loopw [20] (fun x w2 => ∃ i : Nat, i ≤ ps.length ∧ x = .int .i64 (i : Int) ∧ But m (W.alloc (.cells #[.int .i64 f.f0, .int .i64 f.f1, .int .i64 f.f2, .int .i64 f.f3, .int .i64 f.f4, .slice A5 f.f5.length c5] 53)) w2 ∧ TabAt keysSpot w2 ms m (rowEnts (rd ks (j : Int)) (ps.take i) f ++ (putEnts (ks.take j) ps f ++ l0)).length (look keysSpot (rowEnts (rd ks (j : Int)) (ps.take i) f ++ (putEnts (ks.take j) ps f ++ l0))))
        (fun x _ => ps.length - (intOf x).toNat)
      case atStart => exact ⟨0, Nat.zero_le _, rfl, hbut, htab.out⟩
      case round =>
        obtain ⟨i, hi, rfl, hbut2, htab2⟩ := hrel
        replace htab2 := Aside0.mk htab2
        by_cases hlt2 : i < ps.length
        · have hC2 := Kd.F_now (Kd.F_step (Kd.F_bound hB.out) (fun k hk _ => hkeep.out wr hbut2 k hk.2 hk.1))
          have p1 : (0 : Int) ≤ (i : Int) := by omega
          have q1 : (i : Int) < (ps.length : Int) := by omega
          obtain ⟨bd, e1, hx1⟩ := Kd.at_int hC2 (i : Int) p1 q1
          cases e1
          rw [Int.toNat_natCast] at hx1
          have hpw : (Lit.int .i64 (rd ps (i : Int))).wf = true := hp.out _ (by simp [rd, hlt2])
          obtain ⟨r0, r1, r2, r3, r4, r5⟩ := cells6 (hbox.out wr hbut2)
          have hform : FormIn wr ms (.agg #[.int .i64 f.f0, .int .i64 f.f1, .int .i64 f.f2, .int .i64 f.f3, .int .i64 f.f4, .slice A5 f.f5.length c5]) f :=
            FormIn.step ⟨_, rfl, hf.out⟩ (fun k hk hn => hkeep.out wr hbut2 k hk hn) (fun _ _ h => h)
          have hcount : (rowEnts (rd ks (j : Int)) (ps.take i) f ++ (putEnts (ks.take j) ps f ++ l0)).length < maxLen := by
            have h1 := Nat.mul_le_mul_right ps.length (show j + 1 ≤ ks.length by omega)
            rw [Nat.add_mul, Nat.one_mul] at h1
            simp only [List.length_append, rowEnts_length, putEnts_length, List.length_take, Nat.min_eq_left hi, Nat.min_eq_left hj]
            unfold maxLen
            omega
          obtain ⟨w3, hrun, hbut3, htab3⟩ := htab2.out.update hcount (x := (rd ps (i : Int), rd ks (j : Int))) ⟨hpw, hkw.out⟩ hform ⟨_, hm.out⟩
          replace htab3 := Aside0.mk htab3
          replace hcount := Aside0.mk hcount
          replace hform := Aside0.mk hform
          replace hC2 := Aside0.mk hC2
          replace hrun : (Instr.mapUpdate 66 (.map (some m)) (.agg #[.int .i64 (rd ps (i : Int)), .int .i64 (rd ks (j : Int))]) (.agg #[.int .i64 f.f0, .int .i64 f.f1, .int .i64 f.f2, .int .i64 f.f3, .int .i64 f.f4, .slice A5 f.f5.length c5])).run Try.prog wr = .ok () w3 := hrun
          go_wp2
          go_roundw
          case rel =>
            refine ⟨i + 1, by omega, by simp, hbut2.trans hbut3, ?_⟩
            rw [take_next ps i hlt2, rowEnts_snoc]
            exact htab3.out
          case measure => simp [intOf]; omega
        · obtain rfl : i = ps.length := by omega
          go_wp2
          go_roundw
          case rel =>
            refine ⟨j + 1, by omega, by simp, hbut2, ?_⟩
            rw [take_next ks j hlt, putEnts_snoc, List.append_assoc]
            rw [List.take_length] at htab2
            exact htab2.out
          case measure => simp [intOf]; omega
    · obtain rfl : j = ks.length := by omega
      rw [List.take_length] at htab
      go_wp2
      go_end0
      exact ⟨_, rfl, (But.of_below ((Below.refl _ W).alloc (Nat.le_refl _) _)).trans hbut, htab.out⟩

def wfAll (l : List Int) : Bool := l.all fun x => (Lit.int .i64 x).wf
/-- What 'put' does, told by what its arguments mean. -/
def putAbs (g : Nat) (svs : List SV) : Option (List ((Int × Int) × Form)) :=
  if g = 44 then (match svs with
    | [.tab, .form f, .ints ks, .ints ps] => if wfAll ks && wfAll ps && Nat.ble ks.length 1000 && Nat.ble ps.length 1000 then some (putEnts ks ps f) else none
    | _ => none) else none
theorem put_in (g : Nat) (svs : List SV) (l : List ((Int × Int) × Form)) (h : putAbs g svs = some l) : Enters Try.prog g := by
  unfold putAbs at h
  split at h
  · rename_i e; subst e; exact enters_of Try.func44 (by kernel_rfl) rfl
  · cases h
theorem put_ok (g : Nat) (svs : List SV) (l : List ((Int × Int) × Form)) (args : List Value) (W : World) (ms : List (Nat × Nat)) (m : Nat) (l0 : List ((Int × Int) × Form)) (h : putAbs g svs = some l) (hs : Sats W ms args svs)
    (hms : ∀ t k, (t, k) ∈ ms → k < W.heap.size) (huniq : ∀ k, (tabSlot, k) ∈ ms → k = m) (hm : (tabSlot, m) ∈ ms) (hT : TabAt keysSpot W ms m l0.length (look keysSpot l0)) (hfew : (l ++ l0).length ≤ 1000) :
    Calls Try.prog g args.toArray W fun e W' => ∃ v, e = .returned v ∧ But m W W' ∧ TabAt keysSpot W' ms m (l ++ l0).length (look keysSpot (l ++ l0)) := by
  unfold putAbs at h
  split at h
  case isFalse => cases h
  rename_i e
  subst e
  split at h
  case h_2 => cases h
  rename_i f ks ps
  split at h
  case isFalse => cases h
  rename_i hc
  obtain rfl := (Option.some.inj h).symm
  simp only [Bool.and_eq_true] at hc
  obtain ⟨⟨⟨hk, hp⟩, hlk⟩, hlp⟩ := hc
  obtain ⟨v, v2, v3, v4, rfl, e1, e2, e3, e4⟩ := sats4 hs
  obtain ⟨m2, rfl, hm2⟩ := e1
  obtain rfl := huniq m2 hm2
  obtain ⟨cs, rfl, hf⟩ := e2
  obtain ⟨A, c, rfl, _, hA⟩ := e3
  obtain ⟨B, d, rfl, _, hB⟩ := e4
  rw [List.length_append, putEnts_length] at hfew
  exact put_walk W ms m2 l0 f cs ks ps A B c d hms hm hT hf hA hB (fun k hk' => List.all_eq_true.1 hk k hk') (fun p hp' => List.all_eq_true.1 hp p hp') hfew (Nat.le_of_ble_eq_true hlk) (Nat.le_of_ble_eq_true hlp)
end Go.Proofs.Ytpndiobbogelpaa
