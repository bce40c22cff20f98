/- The law LegalOrder returns true: extensions of which nothing is wrong are all right in any order, if the last one stays last; the numbers are ints. -/
import Derived.Test.YtpndiobbogelpaaPureLegalOrder
import Derived.Test.YtpndiobbogelpaaHChkPerm
import Derived.Test.YtpndiobbogelpaaHMaps
import Derived.BigRegion
import Derived.BigQuiet
import Derived.IntWalk
import Derived.Laws.Bits64
namespace Go.Proofs.Ytpndiobbogelpaa
open Go Go.RowKit Go.Maps Go.Proofs.Hand Go.Proofs.Ytpndiobbogelpaa.PLegalOrder Go.Proofs.Ytpndiobbogelpaa.Pure Go.Proofs.YtpndiobbogelpaaW.PrintWords Go.Proofs.YtpndiobbogelpaaW.PrintLast Go.Proofs.YtpndiobbogelpaaW.PrintMore
set_option maxRecDepth 100000

/-- A row of extensions of the call's own at block g; what they lead to lies elsewhere. -/
structure Rw (W : World) (g : Nat) (xs : List S38) : Prop where
  blk : ∃ cur, W.heap[g]? = some (.cells cur 38 (0, 0)) ∧ xs.length * 2 ≤ cur.size
  few : xs.length ≤ 1000
  at_ : ∀ (j : Nat) (x : S38), xs[j]? = some x → ∃ v, W.cell? ⟨g, j * 2, none⟩ = some (.int .i64 x.f0) ∧ W.cell? ⟨g, j * 2 + 1, none⟩ = some v ∧ Kd.FK k38 W (fun k => k ≠ g) x [.int .i64 x.f0, v]
theorem Rw.C {W : World} {g : Nat} {xs : List S38} (h : Rw W g xs) : Kd.C k38 W (some ⟨g, 0, none⟩) xs.length xs :=
  ⟨rfl, by have := h.few; omega, fun _ => ⟨_, rfl, fun j p hp => by
    obtain ⟨v, h1, h2, h3⟩ := h.at_ j p hp
    refine ⟨[.int .i64 p.f0, v], rfl, Kd.FK_now h3, fun i u hu => ?_⟩
    show W.cell? ((⟨g, 0, none⟩ : Addr).add (j * 2 + i)) = some u
    match i, hu with
    | 0, hu => obtain rfl := (Option.some.inj hu).symm; rw [Nat.add_zero]; rw [← h1, add_plain]
    | 1, hu => obtain rfl := (Option.some.inj hu).symm; rw [← h2, add_plain]⟩⟩
theorem Rw.put {W : World} {g : Nat} {xs : List S38} (h : Rw W g xs) {i : Nat} (hi : i < xs.length) {y : S38} {v : Value} (hy : Kd.FK k38 W (fun k => k ≠ g) y [.int .i64 y.f0, v]) :
    Rw ((W.setCell ⟨g, i * 2, none⟩ (.int .i64 y.f0)).setCell ⟨g, i * 2 + 1, none⟩ v) g (xs.set i y) := by
  obtain ⟨cur, hb, hs⟩ := h.blk
  have hb1 := blk_set hb (i * 2) (.int .i64 y.f0)
  have hb2 := blk_set hb1 (i * 2 + 1) v
  have hoth : ∀ k, k ≠ g → ((W.setCell ⟨g, i * 2, none⟩ (.int .i64 y.f0)).setCell ⟨g, i * 2 + 1, none⟩ v).heap[k]? = W.heap[k]? := fun k hk => by
    rw [heap_set_ne _ _ _ _ (by simpa using hk), heap_set_ne _ _ _ _ (by simpa using hk)]
  have hi2 : i * 2 + 1 < cur.size := by omega
  refine ⟨⟨_, hb2, by simpa using hs⟩, by simpa using h.few, fun j x hx => ?_⟩
  have hj : j < xs.length := by have := (List.getElem?_eq_some_iff.1 hx).1; simpa using this
  rw [Joins.cell_of_block hb2 (j * 2), Joins.cell_of_block hb2 (j * 2 + 1)]
  by_cases e : j = i
  · subst e
    obtain rfl : y = x := by simpa [hj] using hx
    refine ⟨v, ?_, ?_, Kd.FK_step hy (fun k hk _ => hoth k hk)⟩
    · simp [Array.getElem?_setIfInBounds]; omega
    · simp [Array.getElem?_setIfInBounds]; omega
  · rw [List.getElem?_set_ne (Ne.symm e)] at hx
    obtain ⟨u, h1, h2, h3⟩ := h.at_ j x hx
    rw [Joins.cell_of_block hb] at h1 h2
    refine ⟨u, ?_, ?_, Kd.FK_step h3 (fun k hk _ => hoth k hk)⟩
    · rw [← h1, Array.getElem?_setIfInBounds_ne (by omega), Array.getElem?_setIfInBounds_ne (by omega)]
    · rw [← h2, Array.getElem?_setIfInBounds_ne (by omega), Array.getElem?_setIfInBounds_ne (by omega)]
theorem extHeap : Kd.Heap k38 := Kd.heap_iso _ (Kd.heap_pair (Kd.heap_int _) (Kd.heap_slice _ (Kd.heap_int _)))
/-- What came in stays as it is while only newer blocks are turned. -/
theorem foot_in {W : World} {A : Option Addr} {n : Nat} {l : List S38} (h : Kd.C k38 W A n l) : Kd.F k38 W (fun k => k < W.heap.size) A n l := fun W' hW => extHeap.C (fun k hk => hW k hk hk) h
theorem extInfo : (Try.prog.info? 38).map (fun i => (i.zero, i.size, i.bytes)) = some (some (.agg #[.int .i64 0, .slice none 0 0]), 2, 32) := by kernel_rfl
theorem emptyN (W : World) : Kd.N k38 38 (W.alloc (.cells #[] 38)) W.heap.size (fun k => W.heap.size ≤ k) (.slice (some ⟨W.heap.size, 0, none⟩) 0 0) [] := by
  refine Kd.R_N ⟨fun k hk => ?_, [], World.ownsRow_made W #[] 0 (Nat.le_refl _) (by decide) rfl, ⟨rfl, fun j p h => by simp at h⟩⟩
  have : W.heap.size = k := by simpa [Value.ownBlock] using hk
  omega
theorem rw_of_N {W : World} {base : Nat} {ok : Nat → Prop} {v : Value} {xs : List S38} (h : Kd.N k38 38 W base ok v xs) (hn : 2 ≤ xs.length) (hm : xs.length ≤ 1000) : ∃ g cap, v = .slice (some ⟨g, 0, none⟩) xs.length cap ∧ base ≤ g ∧ xs.length ≤ cap ∧ Rw W g xs := by
  obtain ⟨h0, rows, hl, hR, hf⟩ := h
  obtain ⟨inner, ho, hreps⟩ := hR.2
  rw [hl] at ho
  rcases ho.2 with ⟨_, e⟩ | ⟨g, cap, cur, rfl, hg, hb, h1, h2, h3, h4⟩
  · omega
  · have h3' : cur.size = cap * 2 := h3
    refine ⟨g, cap, rfl, hg, h1, ⟨⟨cur, hb, by omega⟩, hm, fun j x hx => ?_⟩⟩
    have hjl := (List.getElem?_eq_some_iff.1 hx).1
    have hr : rows[j]? = some (rows[j]'(by omega)) := List.getElem?_eq_getElem (by omega)
    have hfk := hf j x _ hx hr
    have hc : (inner.drop (j * 2)).take 2 = rows[j]'(by omega) := (hreps.2 j _ hr).1
    obtain ⟨A, c, e, hlc, -⟩ := k38_openF hfk
    rw [e] at hfk hc
    have hcell : ∀ q u, ([.int .i64 x.f0, .slice A x.f1.length c] : List Value)[q]? = some u → W.cell? ⟨g, j * 2 + q, none⟩ = some u := fun q u hq => by
      have hq2 : q < 2 := by have := (List.getElem?_eq_some_iff.1 hq).1; simpa using this
      rw [← hc, List.getElem?_take, if_pos hq2, List.getElem?_drop] at hq
      have := World.ownsRow.cells ho (g := g) rfl (j * 2 + q) u hq
      rw [← this, add_plain]
    exact ⟨_, hcell 0 _ rfl, hcell 1 _ rfl, Kd.FK_mono hfk (fun k hk e2 => hk.2 (by rw [e2]; rfl))⟩
theorem Rw.drew {W : World} {g : Nat} {xs : List S38} (h : Rw W g xs) (m : Nat) : Rw (W.drewN m) g xs :=
  ⟨by simpa using h.blk, h.few, fun j x hx => by obtain ⟨v, h1, h2, h3⟩ := h.at_ j x hx; exact ⟨v, by simpa using h1, by simpa using h2, Kd.FK_step h3 (fun k _ _ => by simp)⟩⟩
/-- Two of all but the last, turned. -/
theorem Rw.swap {W : World} {g : Nat} {I : List S38} {z : S38} (h : Rw W g (I ++ [z])) {i k : Nat} (hi : i < I.length) (hk : k < I.length) {vi vk : Value} {xi xk : S38} (ei : I[i]? = some xi) (ek : I[k]? = some xk)
    (hvi : W.cell? ⟨g, i * 2 + 1, none⟩ = some vi) (hvk : W.cell? ⟨g, k * 2 + 1, none⟩ = some vk) : ∃ I', I'.Perm I ∧
    Rw ((((W.setCell ⟨g, i * 2, none⟩ (.int .i64 xk.f0)).setCell ⟨g, i * 2 + 1, none⟩ vk).setCell ⟨g, k * 2, none⟩ (.int .i64 xi.f0)).setCell ⟨g, k * 2 + 1, none⟩ vi) g (I' ++ [z]) := by
  have hi' : (I ++ [z])[i]? = some xi := by rw [List.getElem?_append_left hi]; exact ei
  have hk' : (I ++ [z])[k]? = some xk := by rw [List.getElem?_append_left hk]; exact ek
  obtain ⟨ui, _, p2, p3⟩ := h.at_ i xi hi'
  obtain ⟨uk, _, q2, q3⟩ := h.at_ k xk hk'
  rw [hvi] at p2
  rw [hvk] at q2
  obtain rfl := Option.some.inj p2
  obtain rfl := Option.some.inj q2
  have h1 := h.put (i := i) (by simp; omega) q3
  have hoth : ∀ b, b ≠ g → ((W.setCell ⟨g, i * 2, none⟩ (.int .i64 xk.f0)).setCell ⟨g, i * 2 + 1, none⟩ vk).heap[b]? = W.heap[b]? := fun b hb => by
    rw [heap_set_ne _ _ _ _ (by simpa using hb), heap_set_ne _ _ _ _ (by simpa using hb)]
  have h2 := h1.put (i := k) (by simp; omega) (Kd.FK_step p3 (fun b hb _ => hoth b hb))
  refine ⟨(I.set i xk).set k xi, ?_, ?_⟩
  · have := swap_perm I i k hi hk
    rw [List.getElem?_eq_getElem hi] at ei
    rw [List.getElem?_eq_getElem hk] at ek
    rw [Option.some.inj ei, Option.some.inj ek] at this
    exact this
  · rw [set_init I z xk i hi, set_init _ z xi k (by simpa using hk)] at h2
    exact h2
theorem tmod_small (x : Int) (hx : 0 ≤ x) (m : Nat) (h1 : 1 ≤ m) (h2 : m ≤ 1000) : ∃ i : Nat, i < m ∧ wrap64 (x.tmod (m : Int)) = (i : Int) := by
  have h3 := Int.tmod_lt_of_pos x (show (0 : Int) < (m : Int) by omega)
  have h4 := Int.tmod_nonneg (m : Int) hx
  exact ⟨(x.tmod (m : Int)).toNat, by omega, by rw [IntWalk.wrap64_in _ ⟨by omega, by omega⟩]; omega⟩
theorem wrap_u64_nonneg (a : Int) : 0 ≤ IntKind.u64.wrap a := by
  rw [IntKind.wrap_u64]
  omega
theorem Rw.live {W : World} {g : Nat} {xs : List S38} (h : Rw W g xs) (q : Nat) : W.frozen? ⟨g, q, none⟩ = false := by
  obtain ⟨cur, hb, _⟩ := h.blk
  simp [World.frozen?, hb]
set_option maxHeartbeats 8000000 in
theorem LegalOrder_walk (a0 : Int) (A1 : Option Addr) (c1 : Nat) (l1 : List S38) (A2 : Option Addr) (c2 : Nat) (l2 : List Int) (w : World) (w0 : (Lit.int .i64 a0).wf = true) (hC : Kd.C k38 w A1 l1.length l1) (hc : l1.length ≤ c1) (hw : ∀ x ∈ l1, (Lit.int .i64 x.f0).wf = true ∧ ∀ n ∈ x.f1, (Lit.int .u8 n).wf = true)
    (hC2 : (Kd.int .i64).C w A2 l2.length l2) (hc2 : l2.length ≤ c2) (hw2 : ∀ n ∈ l2, (Lit.int .i64 n).wf = true) :
    Calls Try.prog 7 #[.int .i64 a0, .slice A1 l1.length c1, .slice A2 l2.length c2] w fun e w' => e = .returned (.bool true) ∧ Below w.heap.size w w' := by
  have hal := Aside0.mk (alive_true 20 (Nat.le_refl _))
  replace hC := Aside0.mk hC
  replace hC2 := Aside0.mk hC2
  by_cases g1 : 300 < l1.length
  · have k1 : decide ((300 : Int) < (l1.length : Int)) = true := decide_eq_true (by omega)
    go_enter Try.func7, Try.ntmps7
    go_wp2_with (first
      | (go_at_call 9; refine (passepartoutlaw14_alive.calls _ true _ hal.out).mono ?_; rintro e w1 ⟨rfl, hb1⟩))
    go_ret
    exact ⟨rfl, hb1⟩
  have k1 : decide ((300 : Int) < (l1.length : Int)) = false := decide_eq_false (by omega)
  by_cases g2 : l1.length < 2
  · have k2 : decide ((l1.length : Int) < 2) = true := decide_eq_true (by omega)
    go_enter Try.func7, Try.ntmps7
    go_wp2_with (first
      | (go_at_call 9; refine (passepartoutlaw14_alive.calls _ true _ hal.out).mono ?_; rintro e w1 ⟨rfl, hb1⟩))
    go_ret
    exact ⟨rfl, hb1⟩
  have k2 : decide ((l1.length : Int) < 2) = false := decide_eq_false (by omega)
  by_cases g3 : 100 < l2.length
  · have k3 : decide ((100 : Int) < (l2.length : Int)) = true := decide_eq_true (by omega)
    go_enter Try.func7, Try.ntmps7
    go_wp2_with (first
      | (go_at_call 9; refine (passepartoutlaw14_alive.calls _ true _ hal.out).mono ?_; rintro e w1 ⟨rfl, hb1⟩))
    go_ret
    exact ⟨rfl, hb1⟩
  have k3 : decide ((100 : Int) < (l2.length : Int)) = false := decide_eq_false (by omega)
  have hok : chkOk a0 l1 = true := by
    simp only [chkOk, Bool.and_eq_true]
    exact ⟨⟨w0, Nat.ble_eq_true_of_le (by omega)⟩, List.all_eq_true.2 fun x hx => (hw x hx).1⟩
  obtain ⟨R, hR⟩ : ∃ R, R = (if placeB a0 = true then chk a0 [] 0 l1 else (0, 2)) := ⟨_, rfl⟩
  have hf : Aside0 (legal_Check.f a0 l1 = some R) := Aside0.mk (by unfold legal_Check.f; rw [if_pos hok, hR])
  obtain ⟨R1, R2⟩ := R
  by_cases g4 : R2 = 0
  · subst g4
    have hp : placeB a0 = true := by
      cases h : placeB a0
      · rw [h] at hR; simp at hR
      · rfl
    rw [hp, if_pos rfl] at hR
    obtain ⟨ad, A9, c9, rfl, -⟩ := at_T38 hC.out 0 (by omega) (by omega)
    go_enter Try.func7, Try.ntmps7
    go_wp2_with (first
      | (go_at_call 10; refine (legal_Check.calls a0 (some ad) c1 l1 R1 0 _ hC.out hc hf.out).mono ?_; rintro e w1 ⟨rfl, hb1⟩; have hF : Kd.F k38 w1 (fun k => k < w.heap.size) (some ad) l1.length l1 := Kd.F_step (foot_in hC.out) (fun k hk _ => hb1.block k hk); replace hF := Aside0.mk hF; have hN := Aside0.mk (emptyN w1); have hs1 := hb1.size)
      | (with_reducible refine gate_builtin (b := .append) rfl ?_; refine Aside0.out ?_))
    refine Aside0.mk ?_
    refine Kd.N_append_rows k38 (w0 := w1) w1.heap.size (by rfl) (.tmp 39) (.tmp 40) 22 38 (.agg #[.int .i64 0, .slice none 0 0]) 32 rfl Try.underlying22 extInfo rfl (by decide) (by decide) (.slice (some ⟨w1.heap.size, 0, none⟩) 0 0) [] l1 (some ad) l1.length c1 (fun k => k < w.heap.size ∨ w1.heap.size ≤ k) (fun k => k < w.heap.size) rfl rfl (Kd.N_mono hN.out (fun k hk => .inr hk)) (Kd.F_alloc hF.out _) (fun k hk => ⟨.inl hk, fun he => by have h3 : k = w1.heap.size := (by simpa [Value.ownBlock] using he); omega⟩) (fun k hk => .inr (by rw [World.size_alloc] at hk; omega)) ((Below.refl _ w1).alloc (Nat.le_refl _) _) (by rw [World.size_alloc]; omega) (by rw [List.length_nil]; omega) ?_
    intro v3 w3 hN3 hB3 _ _
    rw [List.nil_append] at hN3
    obtain ⟨g, cap, rfl, hg, hcap, hRw⟩ := rw_of_N hN3 (by omega) (by omega)
    replace hRw := Aside0.mk hRw
    clear hN3 hF hN
    go_wp2
    obtain ⟨I, z, rfl⟩ : ∃ I z, l1 = I ++ [z] := ⟨l1.dropLast, l1.getLast (by intro e; rw [e] at g2; simp at g2), (List.dropLast_concat_getLast _).symm⟩
    have hlen : (I ++ [z]).length = I.length + 1 := by simp
    have hB3' := Aside0.mk (hb1.trans (hB3.mono hs1))
    generalize hn : (I ++ [z]).length = n at *
    go_loopw [44] (fun v wr => ∃ (j : Nat) (I' : List S38), v = .int .i64 (j : Int) ∧ j ≤ l2.length ∧ I'.Perm I ∧ Rw wr g (I' ++ [z]) ∧ Below w.heap.size w wr)
      (fun v _ => l2.length - (intOf v).toNat)
    case atStart => exact ⟨0, I, rfl, Nat.zero_le _, List.Perm.refl _, by simpa using hRw.out, hB3'.out⟩
    case round =>
      obtain ⟨j, I', rfl, hj, hP, hR', hB'⟩ := hrel
      by_cases hlt : j < l2.length
      · obtain ⟨ad2, rfl, hx⟩ := Kd.at_int (Kd.C_below hC2.out hB') (j : Int) (by omega) (by omega)
        have p0 : (0 : Int) ≤ (j : Int) := by omega
        have q0 : (j : Int) < (l2.length : Int) := by omega
        have hp1 : l2.length ≤ 100 := by omega
        rw [Int.toNat_natCast] at hx
        generalize rd l2 (j : Int) = t at hx
        go_wp2
        go_quiet (fail)
        have hlI : I'.length = I.length := hP.length_eq
        obtain ⟨i, hi, ei⟩ := tmod_small (IntKind.u64.wrap t) (wrap_u64_nonneg _) I.length (by omega) (by omega)
        obtain ⟨k, hk, ek⟩ := tmod_small (IntKind.u64.wrap ((IntKind.u64.wrap t).tdiv 7)) (wrap_u64_nonneg _) I.length (by omega) (by omega)
        rw [ei, ek]
        replace hR' := hR'.drew nq
        replace hB' : Below w.heap.size w (wr.drewN nq) := by repeat (first | exact hB' | apply pw_below_drewN | apply below_drew1)
        generalize wr.drewN nq = w5 at hR' hB' ⊢
        have hq3 : (k : Int) < (I.length : Int) + 1 := by omega
        have hq4 : (i : Int) < (I.length : Int) + 1 := by omega
        obtain ⟨vi, y0, y1, y2⟩ := hR'.at_ i (I'[i]'(by omega)) (by rw [List.getElem?_append_left (by omega)]; exact List.getElem?_eq_getElem (by omega))
        obtain ⟨vk, z0, z1, z2⟩ := hR'.at_ k (I'[k]'(by omega)) (by rw [List.getElem?_append_left (by omega)]; exact List.getElem?_eq_getElem (by omega))
        obtain ⟨Ai, ci, ev, -⟩ := k38_openF y2
        obtain ⟨Ak, ck, ew, -⟩ := k38_openF z2
        obtain rfl : vi = .slice Ai (I'[i]'(by omega)).f1.length ci := by injection ev with _ e1; injection e1
        obtain rfl : vk = .slice Ak (I'[k]'(by omega)).f1.length ck := by injection ew with _ e1; injection e1
        clear y2 z2 ev ew
        have fz0 := hR'.live (i * 2)
        have fz1 := hR'.live (i * 2 + 1)
        have fz2 := hR'.live (k * 2)
        have fz3 := hR'.live (k * 2 + 1)
        have ne1 : ¬ (i * 2 = k * 2 + 1) := by omega
        have ne2 : ¬ (k * 2 = i * 2 + 1) := by omega
        have ne3 : ¬ (i * 2 + 1 = k * 2) := by omega
        have ne4 : ¬ (k * 2 + 1 = i * 2) := by omega
        have p1 : (0 : Int) ≤ (i : Int) := by omega
        have q1 : (i : Int) < (n : Int) := by omega
        have p2 : (0 : Int) ≤ (k : Int) := by omega
        have q2 : (k : Int) < (n : Int) := by omega
        replace hR' := Aside0.mk hR'
        go_wp2
        have hsw := Aside0.mk (Rw.swap hR'.out (show i < I'.length by omega) (show k < I'.length by omega) (List.getElem?_eq_getElem (show i < I'.length by omega)) (List.getElem?_eq_getElem (show k < I'.length by omega)) y1 z1)
        have hg9 : w.heap.size ≤ g := by omega
        have hB2 := Aside0.mk ((((hB'.setCell (p := ⟨g, i * 2, none⟩) hg9 (.int .i64 (I'[k]'(by omega)).f0)).setCell (p := ⟨g, i * 2 + 1, none⟩) hg9 (.slice Ak (I'[k]'(by omega)).f1.length ck)).setCell (p := ⟨g, k * 2, none⟩) hg9 (.int .i64 (I'[i]'(by omega)).f0)).setCell (p := ⟨g, k * 2 + 1, none⟩) hg9 (.slice Ai (I'[i]'(by omega)).f1.length ci))
        by_cases hik : i = k
        · subst hik
          obtain ⟨rfl, rfl⟩ : Ai = Ak ∧ ci = ck := by
            have := Option.some.inj (y1.symm.trans z1)
            injection this with e1 _ e3
            exact ⟨e1, e3⟩
          go_region
          clear y0 y1 z0 z1 fz0 fz1 fz2 fz3
          obtain ⟨I2, hP2, hR2⟩ := hsw.out
          replace hR2 := Aside0.mk hR2
          clear hsw
          go_wp2
          go_roundw
          case rel =>
            refine ⟨j + 1, I2, by go_num, by omega, hP2.trans hP, hR2.out.drew 1, ?_⟩
            have := hB2.out
            repeat (first | exact this | apply pw_below_drewN | apply below_drew1)
          case measure => simp [intOf]; omega
        · go_region
          clear y0 y1 z0 z1 fz0 fz1 fz2 fz3
          obtain ⟨I2, hP2, hR2⟩ := hsw.out
          replace hR2 := Aside0.mk hR2
          clear hsw
          go_wp2
          go_roundw
          case rel =>
            refine ⟨j + 1, I2, by go_num, by omega, hP2.trans hP, hR2.out.drew 1, ?_⟩
            have := hB2.out
            repeat (first | exact this | apply pw_below_drewN | apply below_drew1)
          case measure => simp [intOf]; omega
      · have q0 : ¬ (j : Int) < (l2.length : Int) := by omega
        obtain ⟨A4, c4, hs4, hc4, hC4⟩ : ∃ (A : Option Addr) (c : Nat), (A = some ⟨g, 0, none⟩ ∧ c = cap) ∧ n ≤ c ∧ Kd.C k38 wr A (I' ++ [z]).length (I' ++ [z]) := ⟨_, _, ⟨rfl, rfl⟩, hcap, hR'.C⟩
        have hP4 : (I' ++ [z]).length = n := by rw [← hn, List.length_append, List.length_append, hP.length_eq]
        have hf2 : Aside0 (legal_Check.f a0 (I' ++ [z]) = some (0, 0)) := Aside0.mk (by
          have h1 : (chk a0 [] 0 (I ++ [z])).2 = 0 := by rw [← hR]
          have h2 := chk_zero a0 _ _ _ (chk_perm hP h1)
          unfold legal_Check.f
          rw [if_pos (chkOk_perm hP hok), if_pos hp, h2])
        generalize hL : I' ++ [z] = L at hf2 hC4 hP4
        clear hn hlen
        subst hP4
        replace hC4 := Aside0.mk hC4
        replace hB' := Aside0.mk hB'
        obtain ⟨rfl, rfl⟩ := hs4
        clear hR' hP hL
        go_wp2_with (first
          | (go_at_call 10; (with_reducible refine (legal_Check.calls a0 (some ⟨g, 0, none⟩) _ L 0 0 _ hC4.out hc4 hf2.out).mono ?_); rintro e w5 ⟨rfl, hb5⟩; replace hB' := Aside0.mk (hB'.out.trans (hb5.mono hB'.out.size)))
          | (go_at_call 9; refine (passepartoutlaw14_alive.calls _ true _ hal.out).mono ?_; rintro e w6 ⟨rfl, hb6⟩; replace hB' := Aside0.mk (hB'.out.trans (hb6.mono hB'.out.size))))
        go_ret
        exact ⟨rfl, hB'.out⟩
  · have k4 : (R2 != 0) = true := by simpa using g4
    go_enter Try.func7, Try.ntmps7
    go_wp2_with (first
      | (go_at_call 10; refine (legal_Check.calls a0 A1 c1 l1 R1 R2 _ hC.out hc hf.out).mono ?_; rintro e w1 ⟨rfl, hb1⟩)
      | (go_at_call 9; refine (passepartoutlaw14_alive.calls _ true _ hal.out).mono ?_; rintro e w2 ⟨rfl, hb2⟩))
    go_ret
    exact ⟨rfl, hb1.trans (hb2.mono hb1.size)⟩
end Go.Proofs.Ytpndiobbogelpaa
