/- The Go functions shape.item and the two closures that make forms, and the keys of the map of messages; no condition beyond the lemmas' own. -/
import Derived.Test.YtpndiobbogelpaaHSymFn
import Derived.Maps.RangeWalk
import Derived.DeepKeys4
namespace Go.Proofs.Ytpndiobbogelpaa
open Go Go.RowKit Go.Maps Go.Proofs.Hand Go.Proofs.YtpndiobbogelpaaW.PrintWords Go.Proofs.YtpndiobbogelpaaW.PrintLast Go.Proofs.YtpndiobbogelpaaW.PrintMore
set_option maxRecDepth 100000

theorem mixed : Try.prog.follows .mixedOrders = true := by kernel_rfl
/-- Calls of package layout's alone. -/
def tabLay (Y : Keys) : CallTab Y where
  abs := layAbs
  clo := fun _ _ _ => none
  isPut := fun _ => false
  puts := fun _ _ => none
  abs_in := lay_in
  clo_in := fun _ _ _ _ h => by cases h
  puts_in := fun _ _ _ h => by cases h
  abs_ok := lay_ok
  clo_ok := fun _ _ _ _ _ _ _ _ h => by cases h
  puts_ok := fun _ _ _ _ _ _ _ _ h => by cases h
end Go.Proofs.Ytpndiobbogelpaa

namespace Go.Proofs.Ytpndiobbogelpaa
open Go Go.RowKit Go.Maps Go.Proofs.Hand Go.Proofs.YtpndiobbogelpaaW.PrintWords Go.Proofs.YtpndiobbogelpaaW.PrintLast Go.Proofs.YtpndiobbogelpaaW.PrintMore
set_option maxRecDepth 100000

theorem lawSpot : Keyed Try.prog 69 := Keyed.of_law (deep_law_laid (m := 8) (by decide +kernel) (by decide) (by decide +kernel) (by decide +kernel) (by decide +kernel))
def spotVal (x : Int × Int) : Value := .agg #[.int .i64 x.1, .int .i64 x.2]
def spotLit (x : Int × Int) : Lit := .string (keyBytes [.int .i64 x.1, .int .i64 x.2])
def spotOk (x : Int × Int) : Prop := (Lit.int .i64 x.1).wf = true ∧ (Lit.int .i64 x.2).wf = true
theorem spotCells : Try.prog.cellsOf 69 = 2 := by kernel_rfl
theorem intCells : Try.prog.cellsOf 3 = 1 := by kernel_rfl
theorem spotKeyType : Try.prog.keyType 69 = true := by decide +kernel
theorem intLits (d : Nat) (n : Int) (h : (Lit.int .i64 n).wf = true) : Try.prog.keyLits (d + 1) 3 [.int .i64 n] = some [.int .i64 n] := by
  unfold Program.keyLits
  rw [Try.underlying3]
  simp [h]
theorem spotKey (x : Int × Int) (h : spotOk x) : keyOf Try.prog 69 (spotVal x) = some (spotLit x) := by
  unfold keyOf
  rw [Try.underlying69]
  simp only [spotKeyType, Value.formed, Try.underlying69, spotCells, spotVal, Value.cells]
  unfold Program.keyLits
  rw [Try.underlying69]
  simp [spotCells, intCells, spotLit]
  rw [intLits _ _ h.1, intLits _ _ h.2]
  rfl
theorem intLits_inv {d : Nat} {c : List Value} {l : List Lit} (h : Try.prog.keyLits (d + 1) 3 c = some l) : ∃ n, c = [.int .i64 n] ∧ l = [.int .i64 n] ∧ (Lit.int .i64 n).wf = true := by
  unfold Program.keyLits at h
  rw [Try.underlying3] at h
  rcases c with _ | ⟨v, _ | ⟨v2, r⟩⟩
  · simp at h
  · cases v <;> simp at h
    obtain ⟨⟨rfl, hw⟩, rfl⟩ := h
    exact ⟨_, rfl, rfl, hw⟩
  · simp at h
theorem spotKey_inv {v : Value} {kl : Lit} (h : keyOf Try.prog 69 v = some kl) : ∃ x, spotOk x ∧ v = spotVal x ∧ kl = spotLit x := by
  unfold keyOf at h
  rw [Try.underlying69] at h
  simp only [spotKeyType, Bool.true_and] at h
  split at h
  case isFalse => cases h
  rename_i hf
  obtain ⟨ls, h1, rfl⟩ := Option.map_eq_some_iff.1 h
  cases v <;> simp [Value.formed, Try.underlying69] at hf
  rename_i cs
  rw [spotCells] at hf
  obtain ⟨c0, c1, rfl⟩ : ∃ c0 c1, cs = #[c0, c1] := by
    obtain ⟨l⟩ := cs
    match l, hf with
    | [c0, c1], _ => exact ⟨c0, c1, rfl⟩
  unfold Program.keyLits at h1
  rw [Try.underlying69] at h1
  simp [spotCells, intCells, Value.cells] at h1
  obtain ⟨l0, h2, h3⟩ := Option.bind_eq_some_iff.1 h1
  obtain ⟨n0, e0, rfl, w0⟩ := intLits_inv h2
  simp only [Function.comp] at h3
  obtain ⟨l', h4, h5⟩ := Option.map_eq_some_iff.1 h3
  obtain ⟨l1, h6, h7⟩ := Option.bind_eq_some_iff.1 h4
  obtain ⟨l2, h8, h9⟩ := Option.bind_eq_some_iff.1 h6
  obtain ⟨n1, e1, rfl, w1⟩ := intLits_inv h8
  obtain rfl := Option.some.inj h9
  obtain rfl := Option.some.inj h7
  obtain rfl := (List.cons.inj e0).1
  obtain rfl := (List.cons.inj e1).1
  obtain rfl := h5.symm
  exact ⟨(n0, n1), ⟨w0, w1⟩, rfl, rfl⟩
theorem spotSame (x y : Int × Int) (hx : spotOk x) (hy : spotOk y) : (spotLit x).sameKey (spotLit y) = decide (x = y) := by
  by_cases e : x = y
  · subst e; simp [spotLit, Lit.sameKey]
  · rw [decide_eq_false e]
    apply Bool.eq_false_iff.2
    intro h
    have h2 : spotLit x = spotLit y := by
      unfold spotLit Lit.sameKey at h
      unfold spotLit
      rw [eq_of_beq h]
    have h3 := lawSpot.inj (spotKey x hx) (h2 ▸ spotKey y hy)
    unfold spotVal at h3
    simp at h3
    exact e (Prod.ext h3.1 h3.2)
def decSpot : Value → Option (Int × Int)
  | _ => none
def keysSpot : Keys where
  κ := Int × Int
  enc := spotVal
  lit := spotLit
  ok := spotOk
  deq := inferInstance
  mt := 66
  kt := 69
  law := lawSpot
  und := Try.underlying66
  key := spotKey
  same := spotSame
  back := fun kl ⟨v, hv⟩ => by obtain ⟨x, hx, _, e⟩ := spotKey_inv hv; exact ⟨x, hx, e⟩
  dec := decSpot
  dec_ok := fun v x h => by cases h
end Go.Proofs.Ytpndiobbogelpaa

namespace Go.Proofs.Ytpndiobbogelpaa
open Go Go.RowKit Go.Maps Go.Proofs.Hand Go.Proofs.YtpndiobbogelpaaW.PrintWords Go.Proofs.YtpndiobbogelpaaW.PrintLast Go.Proofs.YtpndiobbogelpaaW.PrintMore
set_option maxRecDepth 100000

def longsForm (a : Int) (f : Form) : Form := ⟨2, 2, a, 65535, 1, [f]⟩
theorem longs_ok (a : Int) (f : Form) (p : Value) {W : World} {ms : List (Nat × Nat)} (hms : ∀ t k, (t, k) ∈ ms → k < W.heap.size) (hp : BoxIn W ms p f) :
    Calls Try.prog 43 #[.int .i64 a, p] W fun e W' => ∃ v, e = .returned v ∧ Below W.heap.size W W' ∧ ∀ t, Sat W' ms t v (.form (longsForm a f)) :=
  form_fn (tabLay keysSpot) mixed (d := 3) (args := [.int .i64 a, p]) (svs := [.int a, .box f]) Try.func43 rfl rfl (by decide) (by decide) (by kernel_rfl) hms ⟨rfl, hp, trivial⟩ rfl rfl (Nat.le_of_ble_eq_true rfl)

def nF (n : Int) : Form := ⟨0, n, 0, 0, 0, []⟩
def oF (s lo hi : Int) : Form := ⟨1, s, lo, hi, 1, []⟩
def lF (s lo hi step : Int) (f : Form) : Form := ⟨2, s, lo, hi, step, [f]⟩
def rF (l : List Form) : Form := ⟨3, 0, 0, 0, 0, l⟩
def restF (lo hi : Int) : Form := ⟨4, 0, lo, hi, 0, []⟩
def codesF2 : Form := lF 2 2 65534 2 (nF 2)
end Go.Proofs.Ytpndiobbogelpaa

namespace Go.Proofs.Ytpndiobbogelpaa
open Go Go.RowKit Go.Maps Go.Proofs.Hand Go.Proofs.YtpndiobbogelpaaW.PrintWords Go.Proofs.YtpndiobbogelpaaW.PrintLast Go.Proofs.YtpndiobbogelpaaW.PrintMore
set_option maxRecDepth 100000

/-- The entries that are laid, the last one first: for each type each place. -/
def rowEnts (k : Int) (ps : List Int) (f : Form) : List ((Int × Int) × Form) := (ps.map fun p => ((p, k), f)).reverse
def putEnts : List Int → List Int → Form → List ((Int × Int) × Form)
  | [], _, _ => []
  | k :: ks, ps, f => putEnts ks ps f ++ rowEnts k ps f
theorem putEnts_snoc (k : Int) (ps : List Int) (f : Form) : ∀ ks : List Int, putEnts (ks ++ [k]) ps f = rowEnts k ps f ++ putEnts ks ps f
  | [] => by simp [putEnts]
  | x :: ks => by
    rw [List.cons_append]
    simp only [putEnts]
    rw [putEnts_snoc k ps f ks, List.append_assoc]
theorem rowEnts_snoc (k p : Int) (ps : List Int) (f : Form) : rowEnts k (ps ++ [p]) f = ((p, k), f) :: rowEnts k ps f := by simp [rowEnts]
theorem rowEnts_length (k : Int) (ps : List Int) (f : Form) : (rowEnts k ps f).length = ps.length := by simp [rowEnts]
theorem putEnts_length (ps : List Int) (f : Form) : ∀ ks : List Int, (putEnts ks ps f).length = ks.length * ps.length
  | [] => by simp [putEnts]
  | k :: ks => by
    simp only [putEnts, List.length_append, putEnts_length ps f ks, rowEnts_length, List.length_cons]
    rw [Nat.add_mul, Nat.one_mul]
theorem take_next (l : List Int) (j : Nat) (h : j < l.length) : l.take (j + 1) = l.take j ++ [rd l (j : Int)] := by
  rw [List.take_succ_eq_append_getElem h]
  simp [rd, h]

set_option maxRecDepth 100000 in
set_option maxHeartbeats 2000000 in
theorem put_walk (W : World) (ms : List (Nat × Nat)) (m : Nat) (l0 : List ((Int × Int) × Form)) (f : Form) (cs : List Value) (ks ps : List Int) (A B : Option Addr) (c d : Nat)
    (hms : ∀ t k, (t, k) ∈ ms → k < W.heap.size) (hm : (tabSlot, m) ∈ ms) (hT : TabAt keysSpot W ms m l0.length (look keysSpot l0)) (hf : Kd.FK kForm W (fun k => ¬ inM ms k) f cs)
    (hA : Kd.F (Kd.int .i64) W (fun k => ¬ inM ms k) A ks.length ks) (hB : Kd.F (Kd.int .i64) W (fun k => ¬ inM ms k) B ps.length ps)
    (hk : ∀ k ∈ ks, (Lit.int .i64 k).wf = true) (hp : ∀ p ∈ ps, (Lit.int .i64 p).wf = true) (hsmall : ks.length * ps.length + l0.length ≤ 1000) (hks : ks.length ≤ 1000) (hps : ps.length ≤ 1000) :
    Calls Try.prog 44 #[.map (some m), .agg cs.toArray, .slice A ks.length c, .slice B ps.length d] W fun e W' => ∃ v, e = .returned v ∧ But m W W' ∧ TabAt keysSpot W' ms m (putEnts ks ps f ++ l0).length (look keysSpot (putEnts ks ps f ++ l0)) := by
  obtain ⟨A5, c5, rfl, -, -⟩ := k53_openF hf
  have hmlt := hms _ _ hm
  have hblk := heap_at W (.cells #[.int .i64 f.f0, .int .i64 f.f1, .int .i64 f.f2, .int .i64 f.f3, .int .i64 f.f4, .slice A5 f.f5.length c5] 53) W.heap.size rfl
  replace hT := Aside0.mk hT
  replace hf := Aside0.mk hf
  replace hA := Aside0.mk hA
  replace hB := Aside0.mk hB
  replace hblk := Aside0.mk hblk
  replace hk := Aside0.mk hk
  replace hp := Aside0.mk hp
  replace hms := Aside0.mk hms
  replace hm := Aside0.mk hm
  go_enter Try.func44, Try.ntmps44
  go_wp2
  go_loopw [14] (fun x wr => ∃ j : Nat, j ≤ ks.length ∧ x = .int .i64 (j : Int) ∧ But m (W.alloc (.cells #[.int .i64 f.f0, .int .i64 f.f1, .int .i64 f.f2, .int .i64 f.f3, .int .i64 f.f4, .slice A5 f.f5.length c5] 53)) wr ∧ TabAt keysSpot wr ms m (putEnts (ks.take j) ps f ++ l0).length (look keysSpot (putEnts (ks.take j) ps f ++ l0)))
    (fun x _ => ks.length - (intOf x).toNat)
  case atStart =>
    refine ⟨0, Nat.zero_le _, rfl, But.of_below (Below.refl _ _), ?_⟩
    have hb := ((Below.refl W.heap.size W).alloc (Nat.le_refl _) (.cells #[.int .i64 f.f0, .int .i64 f.f1, .int .i64 f.f2, .int .i64 f.f3, .int .i64 f.f4, .slice A5 f.f5.length c5] 53))
    exact hT.out.step (hb.block m hmlt) (fun k hk _ => hb.block k hk) (fun _ _ h => h)
  case round =>
    obtain ⟨j, hj, rfl, hbut, htab⟩ := hrel
    have hkeep : ∀ w2, But m (W.alloc (.cells #[.int .i64 f.f0, .int .i64 f.f1, .int .i64 f.f2, .int .i64 f.f3, .int .i64 f.f4, .slice A5 f.f5.length c5] 53)) w2 → ∀ k, k < W.heap.size → ¬ inM ms k → w2.heap[k]? = W.heap[k]? := fun w2 h2 k hk hn =>
      (h2.block k (by rw [World.size_alloc]; omega) (fun e => hn ⟨_, e ▸ hm.out⟩)).trans (Below.heap_alloc W _ k hk)
    have hbox : ∀ w2, But m (W.alloc (.cells #[.int .i64 f.f0, .int .i64 f.f1, .int .i64 f.f2, .int .i64 f.f3, .int .i64 f.f4, .slice A5 f.f5.length c5] 53)) w2 → w2.heap[W.heap.size]? = some (.cells #[.int .i64 f.f0, .int .i64 f.f1, .int .i64 f.f2, .int .i64 f.f3, .int .i64 f.f4, .slice A5 f.f5.length c5] 53 (0, 0)) := fun w2 h2 =>
      (h2.block W.heap.size (by rw [World.size_alloc]; omega) (by omega)).trans hblk.out
    replace hkeep := Aside0.mk hkeep
    replace hbox := Aside0.mk hbox
    replace htab := Aside0.mk htab
    by_cases hlt : j < ks.length
    · have hC := Kd.F_now (Kd.F_step (Kd.F_bound hA.out) (fun k hk _ => hkeep.out wr hbut k hk.2 hk.1))
      have p0 : (0 : Int) ≤ (j : Int) := by omega
      have q0 : (j : Int) < (ks.length : Int) := by omega
      obtain ⟨ad, e0, hx0⟩ := Kd.at_int hC (j : Int) p0 q0
      cases e0
      rw [Int.toNat_natCast] at hx0
      have hkw : (Lit.int .i64 (rd ks (j : Int))).wf = true := hk.out _ (by simp [rd, hlt])
      replace hkw := Aside0.mk hkw
      replace hC := Aside0.mk hC
      go_wp2
      go_loopw [20] (fun x w2 => ∃ i : Nat, i ≤ ps.length ∧ x = .int .i64 (i : Int) ∧ But m (W.alloc (.cells #[.int .i64 f.f0, .int .i64 f.f1, .int .i64 f.f2, .int .i64 f.f3, .int .i64 f.f4, .slice A5 f.f5.length c5] 53)) w2 ∧ TabAt keysSpot w2 ms m (rowEnts (rd ks (j : Int)) (ps.take i) f ++ (putEnts (ks.take j) ps f ++ l0)).length (look keysSpot (rowEnts (rd ks (j : Int)) (ps.take i) f ++ (putEnts (ks.take j) ps f ++ l0))))
        (fun x _ => ps.length - (intOf x).toNat)
      case atStart => exact ⟨0, Nat.zero_le _, rfl, hbut, htab.out⟩
      case round =>
        obtain ⟨i, hi, rfl, hbut2, htab2⟩ := hrel
        replace htab2 := Aside0.mk htab2
        by_cases hlt2 : i < ps.length
        · have hC2 := Kd.F_now (Kd.F_step (Kd.F_bound hB.out) (fun k hk _ => hkeep.out wr hbut2 k hk.2 hk.1))
          have p1 : (0 : Int) ≤ (i : Int) := by omega
          have q1 : (i : Int) < (ps.length : Int) := by omega
          obtain ⟨bd, e1, hx1⟩ := Kd.at_int hC2 (i : Int) p1 q1
          cases e1
          rw [Int.toNat_natCast] at hx1
          have hpw : (Lit.int .i64 (rd ps (i : Int))).wf = true := hp.out _ (by simp [rd, hlt2])
          obtain ⟨r0, r1, r2, r3, r4, r5⟩ := cells6 (hbox.out wr hbut2)
          have hform : FormIn wr ms (.agg #[.int .i64 f.f0, .int .i64 f.f1, .int .i64 f.f2, .int .i64 f.f3, .int .i64 f.f4, .slice A5 f.f5.length c5]) f :=
            FormIn.step ⟨_, rfl, hf.out⟩ (fun k hk hn => hkeep.out wr hbut2 k hk hn) (fun _ _ h => h)
          have hcount : (rowEnts (rd ks (j : Int)) (ps.take i) f ++ (putEnts (ks.take j) ps f ++ l0)).length < maxLen := by
            have h1 := Nat.mul_le_mul_right ps.length (show j + 1 ≤ ks.length by omega)
            rw [Nat.add_mul, Nat.one_mul] at h1
            simp only [List.length_append, rowEnts_length, putEnts_length, List.length_take, Nat.min_eq_left hi, Nat.min_eq_left hj]
            unfold maxLen
            omega
          obtain ⟨w3, hrun, hbut3, htab3⟩ := htab2.out.update hcount (x := (rd ps (i : Int), rd ks (j : Int))) ⟨hpw, hkw.out⟩ hform ⟨_, hm.out⟩
          replace htab3 := Aside0.mk htab3
          replace hcount := Aside0.mk hcount
          replace hform := Aside0.mk hform
          replace hC2 := Aside0.mk hC2
          replace hrun : (Instr.mapUpdate 66 (.map (some m)) (.agg #[.int .i64 (rd ps (i : Int)), .int .i64 (rd ks (j : Int))]) (.agg #[.int .i64 f.f0, .int .i64 f.f1, .int .i64 f.f2, .int .i64 f.f3, .int .i64 f.f4, .slice A5 f.f5.length c5])).run Try.prog wr = .ok () w3 := hrun
          go_wp2
          go_roundw
          case rel =>
            refine ⟨i + 1, by omega, by simp, hbut2.trans hbut3, ?_⟩
            rw [take_next ps i hlt2, rowEnts_snoc]
            exact htab3.out
          case measure => simp [intOf]; omega
        · obtain rfl : i = ps.length := by omega
          go_wp2
          go_roundw
          case rel =>
            refine ⟨j + 1, by omega, by simp, hbut2, ?_⟩
            rw [take_next ks j hlt, putEnts_snoc, List.append_assoc]
            rw [List.take_length] at htab2
            exact htab2.out
          case measure => simp [intOf]; omega
    · obtain rfl : j = ks.length := by omega
      rw [List.take_length] at htab
      go_wp2
      go_end0
      exact ⟨_, rfl, (But.of_below ((Below.refl _ W).alloc (Nat.le_refl _) _)).trans hbut, htab.out⟩

def wfAll (l : List Int) : Bool := l.all fun x => (Lit.int .i64 x).wf
/-- What 'put' does, told by what its arguments mean. -/
def putAbs (g : Nat) (svs : List SV) : Option (List ((Int × Int) × Form)) :=
  if g = 44 then (match svs with
    | [.tab, .form f, .ints ks, .ints ps] => if wfAll ks && wfAll ps && Nat.ble ks.length 1000 && Nat.ble ps.length 1000 then some (putEnts ks ps f) else none
    | _ => none) else none
theorem put_in (g : Nat) (svs : List SV) (l : List ((Int × Int) × Form)) (h : putAbs g svs = some l) : Enters Try.prog g := by
  unfold putAbs at h
  split at h
  · rename_i e; subst e; exact enters_of Try.func44 (by kernel_rfl) rfl
  · cases h
theorem put_ok (g : Nat) (svs : List SV) (l : List ((Int × Int) × Form)) (args : List Value) (W : World) (ms : List (Nat × Nat)) (m : Nat) (l0 : List ((Int × Int) × Form)) (h : putAbs g svs = some l) (hs : Sats W ms args svs)
    (hms : ∀ t k, (t, k) ∈ ms → k < W.heap.size) (huniq : ∀ k, (tabSlot, k) ∈ ms → k = m) (hm : (tabSlot, m) ∈ ms) (hT : TabAt keysSpot W ms m l0.length (look keysSpot l0)) (hfew : (l ++ l0).length ≤ 1000) :
    Calls Try.prog g args.toArray W fun e W' => ∃ v, e = .returned v ∧ But m W W' ∧ TabAt keysSpot W' ms m (l ++ l0).length (look keysSpot (l ++ l0)) := by
  unfold putAbs at h
  split at h
  case isFalse => cases h
  rename_i e
  subst e
  split at h
  case h_2 => cases h
  rename_i f ks ps
  split at h
  case isFalse => cases h
  rename_i hc
  obtain rfl := (Option.some.inj h).symm
  simp only [Bool.and_eq_true] at hc
  obtain ⟨⟨⟨hk, hp⟩, hlk⟩, hlp⟩ := hc
  obtain ⟨v, v2, v3, v4, rfl, e1, e2, e3, e4⟩ := sats4 hs
  obtain ⟨m2, rfl, hm2⟩ := e1
  obtain rfl := huniq m2 hm2
  obtain ⟨cs, rfl, hf⟩ := e2
  obtain ⟨A, c, rfl, _, hA⟩ := e3
  obtain ⟨B, d, rfl, _, hB⟩ := e4
  rw [List.length_append, putEnts_length] at hfew
  exact put_walk W ms m2 l0 f cs ks ps A B c d hms hm hT hf hA hB (fun k hk' => List.all_eq_true.1 hk k hk') (fun p hp' => List.all_eq_true.1 hp p hp') hfew (Nat.le_of_ble_eq_true hlk) (Nat.le_of_ble_eq_true hlp)
end Go.Proofs.Ytpndiobbogelpaa

namespace Go.Proofs.Ytpndiobbogelpaa
open Go Go.RowKit Go.Maps Go.Proofs.Hand Go.Proofs.YtpndiobbogelpaaW.PrintWords Go.Proofs.YtpndiobbogelpaaW.PrintLast Go.Proofs.YtpndiobbogelpaaW.PrintMore
set_option maxRecDepth 100000

def longClo (g : Nat) (f : Form) (svs : List SV) : Option SV := if g = 43 then (match svs with | [.int a] => some (.form (longsForm a f)) | _ => none) else none
def tabExt : CallTab keysSpot where
  abs := layAbs
  clo := longClo
  isPut := fun g => g == 44
  puts := putAbs
  abs_in := lay_in
  clo_in := fun g f svs r h => by
    unfold longClo at h
    split at h
    · rename_i e; subst e; exact enters_of Try.func43 (by kernel_rfl) rfl
    · cases h
  puts_in := put_in
  abs_ok := lay_ok
  clo_ok := fun g f svs r args p W ms h hs hp hms => by
    unfold longClo at h
    split at h
    case isFalse => cases h
    rename_i e; subst e
    split at h
    case h_2 => cases h
    obtain rfl := (Option.some.inj h).symm
    obtain ⟨v, rfl, e1⟩ := sats1 hs
    obtain rfl : v = _ := e1
    exact longs_ok _ _ p hms hp
  puts_ok := fun g svs l args W ms m l0 h hs hms hu hm hT hfew => put_ok g svs l args W ms m l0 h hs hms hu hm hT hfew
def longF : Form := oF 2 1 65535
def groupsF : Form := lF 2 2 65535 2 (nF 2)
def shareF : Form := rF [nF 2, longF]
/-- The extensions' forms, with the types and the places that have them, as the text lays them. -/
def extRows : List (Form × List Int × List Int) :=
  [(lF 2 1 65535 1 (rF [nF 1, longF]), [0], [1]), (rF [], [0], [8]), (nF 1, [1, 15], [1, 8]), (rF [nF 1, longsForm 0 longF, oF 2 0 65535], [5], [1]), (rF [], [5], [13]),
   (rF [nF 1, oF 3 1 16777215], [5], [11]), (groupsF, [10], [1, 8]), (codesF2, [13, 50], [1, 13]), (rF [groupsF, oF 1 0 255], [14], [1, 8]), (lF 2 2 65535 1 (oF 1 1 255), [16], [1, 8]),
   (rF [], [18], [1, 13]), (longsForm 1 longF, [18], [11]), (lF 1 1 255 1 (nF 1), [19, 20, 45], [1]), (nF 1, [19, 20], [8]), (restF 0 65535, [21], [1]),
   (rF [lF 2 7 65535 1 (rF [longF, nF 4]), lF 2 33 65535 1 (oF 1 32 255)], [41], [1]), (nF 2, [41, 43], [2]), (rF [], [42], [1, 8]), (nF 4, [42], [4]), (lF 1 2 254 2 (nF 2), [43], [1]),
   (nF 2, [43, 51], [6]), (longF, [44], [1, 6]), (longsForm 3 longF, [47], [1, 13]), (lF 2 0 65535 1 (rF [oF 1 1 255, oF 2 0 65535]), [48], [13]), (rF [], [49], [1]), (lF 2 0 65535 1 shareF, [51], [1]), (shareF, [51], [2])]
def extTab : List ((Int × Int) × Form) := extRows.foldl (fun T e => putEnts e.2.1 e.2.2 e.1 ++ T) []
theorem extensions_ok (W : World) : Calls Try.prog 27 #[] W fun e W' => ∃ m ms, e = .returned (.map (some m)) ∧ Below W.heap.size W W' ∧ TabAt keysSpot W' ms m extTab.length (look keysSpot extTab) ∧ m < W'.heap.size ∧ W.heap.size ≤ m :=
  tab_fn (Y := keysSpot) tabExt mixed (d := 0) (T := extTab) Try.func27 rfl rfl (by decide) (by decide) (by kernel_rfl) W
end Go.Proofs.Ytpndiobbogelpaa
