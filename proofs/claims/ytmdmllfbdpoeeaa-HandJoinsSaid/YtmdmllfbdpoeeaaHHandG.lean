/- The examples of the laws on hands hold; no condition. -/
import Derived.Test.YtmdmllfbdpoeeaaHHandF
import Derived.Lib.ConvBytes
namespace Go.Proofs.Ytmdmllfbdpoeeaa
open Go Go.RowKit Go.Maps Go.Proofs.Hand Go.Proofs.YtmdmllfbdpoeeaaW.PrintWords Go.Proofs.YtmdmllfbdpoeeaaW.PrintLast Go.Proofs.YtmdmllfbdpoeeaaW.PrintMore
set_option maxRecDepth 100000
set_option linter.unusedVariables false
set_option linter.unusedSimpArgs false

/-- A row of bytes that a call made. -/
theorem lit_row {W : World} {b : Nat} {cs : Array Value} {t : Nat} (l : List Int) (h : W.heap[b]? = some (.cells cs t (0, 0))) (hl : l.length ≤ 1000000) (hc : ∀ (j : Nat) (x : Int), l[j]? = some x → cs[j]? = some (.int .u8 x)) : Kd.F (Kd.int .u8) W (fun k => k = b) (some ⟨b, 0, none⟩) l.length l := fun W' hW => by
  have hb : W'.heap[b]? = _ := (hW b rfl (Array.getElem?_eq_some_iff.1 h).1).trans h
  refine ⟨rfl, by omega, fun _ => ⟨_, rfl, fun j p hp => ⟨[.int .u8 p], rfl, rfl, fun i u hu => ?_⟩⟩⟩
  match i, hu with
  | 0, hu =>
    obtain rfl := (Option.some.inj hu).symm
    show W'.cell? ((⟨b, 0, none⟩ : Addr).add (j * 1 + 0)) = _
    rw [add_plain, Nat.mul_one, Nat.add_zero, Joins.cell_of_block hb]
    exact hc j p hp
abbrev exA : HSt := ⟨9, [24, 0, 0], [10, 11, 12], 0, 0⟩
abbrev exB : HSt := ⟨9, [5], [22], 0, 0⟩
theorem feedA : feed (hand0 9) (zipAt [24, 0, 0] 10) = (exA, []) := by rfl
theorem feedB : feed exA (zipAt [1, 1, 5] 20) = (exB, [([24, 0, 0, 1, 1], [10, 11, 12, 20, 21])]) := by rfl
theorem segB : segL [10, 11, 12, 20, 21] = [⟨0, 10⟩, ⟨3, 20⟩] := by rfl
theorem placeB0 : handPlace 5 [⟨0, 10⟩, ⟨3, 20⟩] 0 = 10 := by rfl
theorem placeB3 : handPlace 5 [⟨0, 10⟩, ⟨3, 20⟩] 3 = 20 := by rfl
theorem placeB5 : handPlace 5 [⟨0, 10⟩, ⟨3, 20⟩] 5 = 22 := by rfl
/-- Put, at a row of bytes that the caller has just made. -/
theorem Put_lit (w0 : World) (g B : Nat) (vD0 vS0 : Value) (s0 : HSt) (a : Int) (b : List Int) (cs : Array Value) (R : HSt × List (List Int × List Int)) (w : World) (hH : HandIs w B g vD0 vS0 s0) (hb : Below B w0 w) (hcs : cs = (b.map (Value.int .u8)).toArray)
    (hby : ∀ x ∈ b, 0 ≤ x ∧ x ≤ 255) (h0 : 0 ≤ a) (hat : a + b.length ≤ 5000000000000) (hfew : s0.data.length + b.length ≤ 1000000) (hR : feed s0 (zipAt b a) = R) :
    Calls Try.prog 12 #[.pointer (some ⟨g, 0, none⟩), .int .i64 a, .slice (some ⟨w.heap.size, 0, none⟩) b.length b.length] (w.alloc (.cells cs 5)) (PutLaw w0 B g w (ownOf g vD0 vS0) R) := by
  subst hR
  have hB : B ≤ w.heap.size := Nat.le_of_lt (Nat.lt_of_le_of_lt (hH.lowAll (.inl rfl)) (hH.lt (.inl rfl)))
  have hr := lit_row b (heap_at w (.cells cs 5) w.heap.size rfl) (by omega) (fun j x hj => by subst hcs; simp [hj])
  refine (Put_law w0 g B vD0 vS0 s0 a (some ⟨w.heap.size, 0, none⟩) b.length b (fun k => k = w.heap.size) _ (hH.keep (fun k _ hlt => Below.heap_alloc _ _ _ hlt)) (hb.alloc hB _) hr (Nat.le_refl _) (fun k hk h => by have := hH.lt h; omega) hby h0 hat hfew).mono ?_
  rintro e w' ⟨A, c, vD, vS, x, y, he, hx, hy, hl, hi, hn, hbl, hk, ho⟩
  refine ⟨A, c, vD, vS, x, y, he, hx, hy, hl, hi, Kd.N_lower (Kd.N_mono hn (fun k hk2 => ⟨by have := hk2.1; rw [World.size_alloc] at this; omega, hk2.2⟩)) (by rw [World.size_alloc]; omega), hbl, ?_, fun k hk2 => (ho k hk2).imp id (fun h => by rw [World.size_alloc] at h; omega)⟩
  exact ((Kp.refl w _).below (below_alloc (Below.refl _ _) _)).then_ hk (fun k hk2 => .inl hk2)
theorem extHeap39 : Kd.Heap k39 := Kd.heap_iso _ (Kd.heap_pair (Kd.heap_int _) (Kd.heap_int _))
set_option maxHeartbeats 4000000 in
theorem alive_walk (w : World) : Calls Try.prog 9 #[] w fun e w' => e = .returned (.bool true) ∧ Below w.heap.size w w' := by
  go_enter Try.func9, Try.ntmps9
  go_wp2_with (first
    | (go_at_call 10; refine (New_ok 9 _ (by decide) (by decide)).mono ?_; rintro e w1 ⟨rfl, hw1⟩; have hI1 := Aside0.mk (New_is 9 w w.heap.size (Nat.le_refl _)); have hB1 := Aside0.mk ((Below.refl w.heap.size w).alloc (Nat.le_refl _) (.cells #[.int .i64 9, .slice none 0 0, .slice none 0 0, .int .i64 0, .int .i64 0, .int .i64 0, .int .i64 0] 57)); rw [hw1] at hI1 hB1; clear hw1))
  refine (Put_lit w w.heap.size w.heap.size _ _ (hand0 9) 10 [24, 0, 0] _ (exA, []) w1 hI1.out hB1.out rfl (by decide) (by decide) (by decide) (by decide) feedA).mono ?_
  rintro e w2 ⟨A2, c2, vD2, vS2, _, _, rfl, ⟨rfl⟩, ⟨rfl⟩, -, hI2, -, hB2, -, -⟩
  replace hI2 := Aside0.mk hI2
  replace hB2 := Aside0.mk hB2
  clear hI1 hB1
  go_wp2_with fail
  refine (Put_lit w w.heap.size w.heap.size _ _ exA 20 [1, 1, 5] _ (exB, [([24, 0, 0, 1, 1], [10, 11, 12, 20, 21])]) w2 hI2.out hB2.out rfl (by decide) (by decide) (by decide) (by decide) feedB).mono ?_
  rintro e w3 ⟨A3, c3, vD3, vS3, _, _, rfl, ⟨rfl⟩, ⟨rfl⟩, hc3, hI3, hN3, hB3, -, -⟩
  obtain ⟨gl, cl, hgl, -⟩ := Kd.N_form hN3 (by decide)
  obtain rfl : A3 = some ⟨gl, 0, none⟩ := by injection hgl
  clear hgl
  obtain ⟨-, -, hC3⟩ := Kd.N_reads' hN3
  obtain ⟨_, A4, c4, A5, c5, e, z0, z1, hc4, hC4, hc5, hC5⟩ := at_T37 hC3 0 (by decide) (by decide)
  cases e
  simp only [rd_T37, foundOf, List.map_cons, List.map_nil, List.getD, List.getElem?_cons_zero, Option.getD_some, show (0 : Int).toNat = 0 from rfl, segB, Nat.zero_mul, add_plain, List.length_cons, List.length_nil, Nat.zero_add, Nat.reduceAdd] at z0 z1 hc4 hC4 hc5 hC5
  replace hI3 := Aside0.mk hI3
  replace hB3 := Aside0.mk hB3
  replace hC4 := Aside0.mk hC4
  replace hC5 := Aside0.mk hC5
  clear hI2 hB2 hN3 hC3
  have hs1 := run_string w3 A4 5 c4 _ hC4.out
  rw [show strOfNums [24, 0, 0, 1, 1] = (⟨#[24, 0, 0, 1, 1]⟩ : ByteArray) from rfl] at hs1
  have hpl : ∀ (i r : Int), handPlace 5 [⟨0, 10⟩, ⟨3, 20⟩] i = r → ∀ W, (∀ k, k < w3.heap.size → W.heap[k]? = w3.heap[k]?) → Calls Try.prog 14 #[.agg #[.slice A4 5 c4, .slice A5 2 c5], .int .i64 i] W fun e w' => e = .returned (.int .i64 r) ∧ Below W.heap.size W w' := fun i r hr W hW => by
    subst hr
    exact Place_calls A4 A5 5 c4 c5 [⟨0, 10⟩, ⟨3, 20⟩] i W (by simp) (extHeap39.C hW hC5.out) hc5 (by decide) (by decide) (by intro s hs; simp at hs; rcases hs with rfl | rfl <;> decide) (by decide)
  have hp0 := Aside0.mk (hpl 0 10 placeB0)
  have hp3 := Aside0.mk (hpl 3 20 placeB3)
  have hp5 := Aside0.mk (hpl 5 22 placeB5)
  clear hpl
  go_wp2_with fail
  refine (hp0.out _ (fun _ _ => rfl)).mono ?_
  rintro e w4 ⟨rfl, hb4⟩
  have y0 := (hb4.cell (p := ⟨gl, 0, none⟩) (World.block_lt_of_cell? _ _ z0)).trans z0
  have y1 := (hb4.cell (p := ⟨gl, 1, none⟩) (World.block_lt_of_cell? _ _ z1)).trans z1
  replace hb4 := Aside0.mk hb4
  go_wp2_with fail
  refine (hp3.out _ (fun k hk => hb4.out.block k hk)).mono ?_
  rintro e w5 ⟨rfl, hb5⟩
  have x0 := (hb5.cell (p := ⟨gl, 0, none⟩) (World.block_lt_of_cell? _ _ y0)).trans y0
  have x1 := (hb5.cell (p := ⟨gl, 1, none⟩) (World.block_lt_of_cell? _ _ y1)).trans y1
  have hb5' := Aside0.mk (hb4.out.trans (hb5.mono hb4.out.size))
  clear hb5
  go_wp2_with fail
  refine (hp5.out _ (fun k hk => hb5'.out.block k hk)).mono ?_
  rintro e w6 ⟨rfl, hb6⟩
  have hb6' := Aside0.mk (hb5'.out.trans (hb6.mono hb5'.out.size))
  clear hb6
  go_wp2_with fail
  refine (Held_calls _ (hI3.out.keep (W' := w6) (fun k hk hlt => hb6'.out.block k hlt))).mono ?_
  rintro e w7 ⟨rfl, rfl⟩
  go_wp2
  go_ret
  exact ⟨rfl, hB3.out.trans (hb6'.out.mono hB3.out.size)⟩
end Go.Proofs.Ytmdmllfbdpoeeaa
