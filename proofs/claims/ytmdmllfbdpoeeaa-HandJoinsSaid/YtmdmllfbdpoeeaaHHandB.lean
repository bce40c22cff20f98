/- The place of a message's byte, by the Go function hand.Found.Place, and the two clones of rows that package hand makes; no condition beyond the lemmas' own. -/
import Derived.Test.YtmdmllfbdpoeeaaHHandA
import Derived.Lib.LazyBuf
namespace Go.Proofs.Ytmdmllfbdpoeeaa
open Go Go.RowKit Go.Maps Go.Proofs.Hand Go.Proofs.YtmdmllfbdpoeeaaW.PrintWords Go.Proofs.YtmdmllfbdpoeeaaW.PrintLast Go.Proofs.YtmdmllfbdpoeeaaW.PrintMore
set_option maxRecDepth 100000

set_option linter.unusedVariables false
set_option linter.unusedSimpArgs false
def placeS (l : List S39) (j : Int) : Int := match l.reverse.find? (fun s => decide (s.f0 ≤ j)) with
  | some s => s.f1 + j - s.f0
  | none => 0
theorem placeS_snoc (l : List S39) (s : S39) (j : Int) : placeS (l ++ [s]) j = if s.f0 ≤ j then s.f1 + j - s.f0 else placeS l j := by
  unfold placeS
  rw [List.reverse_append, List.reverse_singleton, List.singleton_append, List.find?_cons]
  by_cases h : s.f0 ≤ j
  · simp [h]
  · simp [h]
def segsOk (l : List S39) : Prop := ∀ s ∈ l, 0 ≤ s.f0 ∧ s.f0 ≤ 1000000 ∧ 0 ≤ s.f1 ∧ s.f1 ≤ 10000000000000
set_option maxHeartbeats 2000000 in
theorem Place_none (A : Option Addr) (n c c2 : Nat) (i : Int) (w : World) :
    Calls Try.prog 14 #[.agg #[.slice A n c, .slice none 0 c2], .int .i64 i] w fun e w' => e = .returned (.int .i64 0) ∧ Below w.heap.size w w' := by
  go_enter Try.func14, Try.ntmps14
  go_wp2
  go_step3
  go_wp2
  (try rw [Exit.noGoto_ret])
  go_ret
  exact ⟨rfl, (Below.refl _ _).alloc (Nat.le_refl _) _⟩
theorem cells2F {W : World} {b : Nat} {a0 a1 : Value} (h : W.heap[b]? = some (.cells #[a0, a1] 37 (0, 0))) : W.cell? ⟨b, 0, none⟩ = some a0 ∧ W.cell? ⟨b, 1, none⟩ = some a1 := by
  simp [World.cell?, h]
theorem kept2 {W w1 : World} {b : Nat} {o : Obj} (h : W.heap[b]? = some o) (hb : Below W.heap.size W w1) : w1.heap[b]? = some o := (hb.block b (Array.getElem?_eq_some_iff.1 h).1).trans h
theorem placeS_step {l : List S39} {q : Nat} {s : S39} {j : Int} (hs : l[q]? = some s) : placeS (l.take (q + 1)) j = if s.f0 ≤ j then s.f1 + j - s.f0 else placeS (l.take q) j := by
  rw [List.take_add_one, hs]
  exact placeS_snoc _ _ _
set_option maxHeartbeats 4000000 in
theorem Place_pos (A B : Option Addr) (n c c2 : Nat) (l : List S39) (i : Int) (w : World) (hl : l ≠ []) (hB : Kd.C k39 w B l.length l) (hc : l.length ≤ c2) (hl2 : l.length ≤ 1000000) (hn : n ≤ 1000000) (hok : segsOk l) (h0 : 0 < i) (h1 : i < n) :
    Calls Try.prog 14 #[.agg #[.slice A n c, .slice B l.length c2], .int .i64 i] w fun e w' => e = .returned (.int .i64 (placeS l i)) ∧ Below w.heap.size w w' := by
  have hp : 0 < l.length := List.length_pos_iff.2 hl
  have HB := Aside0.mk hB
  clear hB
  replace hok := Aside0.mk hok
  have e0 : ((l.length : Int) == 0) = false := beq_eq_false_iff_ne.2 (by omega)
  have e1 : (i == (n : Int)) = false := beq_eq_false_iff_ne.2 (by omega)
  have g0 : ¬ i ≤ 0 := by omega
  have hW := heap_at w (.cells #[.slice A n c, .slice B l.length c2] 37) w.heap.size rfl
  have hBl := (Below.refl w.heap.size w).alloc (Nat.le_refl _) (.cells #[.slice A n c, .slice B l.length c2] 37)
  obtain ⟨W0, hW0⟩ : ∃ W0, w.alloc (.cells #[.slice A n c, .slice B l.length c2] 37) = W0 := ⟨_, rfl⟩
  rw [hW0] at hW hBl
  replace hW := Aside0.mk hW
  replace hBl := Aside0.mk hBl
  replace hW0 := Aside0.mk hW0
  go_enter Try.func14, Try.ntmps14
  go_wp2
  go_step3
  go_wp2
  go_step3
  go_wp2
  go_loopw [6, 7] (fun v6 v7 wr => ∃ q : Nat, v6 = .int .i64 0 ∧ v7 = .int .i64 ((q : Int) - 1) ∧ q ≤ l.length ∧ Aside0 (placeS l i = placeS (l.take q) i) ∧ Aside0 (wr.heap[w.heap.size]? = some (.cells #[.slice A n c, .slice B l.length c2] 37 (0, 0))) ∧ Below w.heap.size w wr)
    (fun _ v7 _ => (intOf v7 + 1).toNat)
  case atStart => exact ⟨l.length, rfl, rfl, Nat.le_refl _, ⟨by rw [List.take_length]⟩, ⟨by rw [hW0.out]; exact hW.out⟩, by rw [hW0.out]; exact hBl.out⟩
  case round =>
    obtain ⟨q, rfl, rfl, hq, hpl, hX, hb⟩ := hrel
    obtain ⟨y0, y1⟩ := cells2F hX.out
    cases q with
    | zero =>
      go_wp2
      (try rw [Exit.noGoto_ret])
      go_ret
      exact ⟨congrArg (fun z => Ending.returned (Value.int .i64 z)) (by rw [hpl.out]; rfl), hb⟩
    | succ q =>
      obtain ⟨ad, rfl, z0, z1⟩ := at_T39 (Kd.C_below HB.out hb) (q : Int) (by omega) (by omega)
      have hx : l[q]? = some (rd_T39 l (q : Int)) := by simp [rd_T39, List.getD, List.getElem?_eq_getElem (show q < l.length by omega)]
      have ho := hok.out _ (List.mem_of_getElem? hx)
      have hst := Aside0.mk (hpl.out.trans (placeS_step (j := i) hx))
      generalize rd_T39 l (q : Int) = s at hx z0 z1 ho hst
      replace hx := Aside0.mk hx
      simp only [Int.toNat_natCast] at z0 z1
      obtain ⟨o0, o1, o2, o3⟩ := ho
      have q1 : (0 : Int) ≤ (q : Int) := by omega
      have q2 : (q : Int) < (l.length : Int) := by omega
      have hb2 := hb.alloc hb.size (.cells #[.int .i64 s.f0, .int .i64 s.f1] 39)
      have hX2 := kept2 hX.out ((Below.refl _ wr).alloc (Nat.le_refl _) (.cells #[.int .i64 s.f0, .int .i64 s.f1] 39))
      by_cases hs : s.f0 ≤ i
      · have ks : decide (s.f0 ≤ i) = true := decide_eq_true hs
        have hv := Aside0.mk (hst.out.trans (if_pos hs))
        replace hs := Aside0.mk hs
        go_wp2
        rw [Exit.noGoto_ret]
        go_ret
        exact ⟨congrArg (fun z => Ending.returned (Value.int .i64 z)) (by rw [hv.out]), hb2⟩
      · have ks : decide (s.f0 ≤ i) = false := decide_eq_false hs
        have hv := Aside0.mk (hst.out.trans (if_neg hs))
        replace hs := Aside0.mk hs
        replace hX2 := Aside0.mk hX2
        go_wp2
        go_roundw
        case rel => exact ⟨q, rfl, rfl, by omega, hv, hX2, hb2⟩
        case measure => simp [intOf]
set_option maxHeartbeats 4000000 in
theorem Place_low (A B : Option Addr) (n c c2 : Nat) (l : List S39) (i : Int) (w : World) (hl : l ≠ []) (hB : Kd.C k39 w B l.length l) (hc : l.length ≤ c2) (hl2 : l.length ≤ 1000000) (hn : n ≤ 1000000) (hok : segsOk l) (h0 : i ≤ 0) (h1 : 0 < n) :
    Calls Try.prog 14 #[.agg #[.slice A n c, .slice B l.length c2], .int .i64 i] w fun e w' => e = .returned (.int .i64 (placeS l 0)) ∧ Below w.heap.size w w' := by
  have hp : 0 < l.length := List.length_pos_iff.2 hl
  have HB := Aside0.mk hB
  clear hB
  replace hok := Aside0.mk hok
  have e0 : ((l.length : Int) == 0) = false := beq_eq_false_iff_ne.2 (by omega)
  have g0 : i ≤ (n : Int) := by omega
  have hW := heap_at w (.cells #[.slice A n c, .slice B l.length c2] 37) w.heap.size rfl
  have hBl := (Below.refl w.heap.size w).alloc (Nat.le_refl _) (.cells #[.slice A n c, .slice B l.length c2] 37)
  obtain ⟨W0, hW0⟩ : ∃ W0, w.alloc (.cells #[.slice A n c, .slice B l.length c2] 37) = W0 := ⟨_, rfl⟩
  rw [hW0] at hW hBl
  replace hW := Aside0.mk hW
  replace hBl := Aside0.mk hBl
  replace hW0 := Aside0.mk hW0
  go_enter Try.func14, Try.ntmps14
  go_wp2
  go_step3
  go_wp2
  go_step3
  go_wp2
  go_loopw [6, 7] (fun v6 v7 wr => ∃ q : Nat, v6 = .int .i64 0 ∧ v7 = .int .i64 ((q : Int) - 1) ∧ q ≤ l.length ∧ Aside0 (placeS l 0 = placeS (l.take q) 0) ∧ Aside0 (wr.heap[w.heap.size]? = some (.cells #[.slice A n c, .slice B l.length c2] 37 (0, 0))) ∧ Below w.heap.size w wr)
    (fun _ v7 _ => (intOf v7 + 1).toNat)
  case atStart => exact ⟨l.length, rfl, rfl, Nat.le_refl _, ⟨by rw [List.take_length]⟩, ⟨by rw [hW0.out]; exact hW.out⟩, by rw [hW0.out]; exact hBl.out⟩
  case round =>
    obtain ⟨q, rfl, rfl, hq, hpl, hX, hb⟩ := hrel
    obtain ⟨y0, y1⟩ := cells2F hX.out
    cases q with
    | zero =>
      go_wp2
      (try rw [Exit.noGoto_ret])
      go_ret
      exact ⟨congrArg (fun z => Ending.returned (Value.int .i64 z)) (by rw [hpl.out]; rfl), hb⟩
    | succ q =>
      obtain ⟨ad, rfl, z0, z1⟩ := at_T39 (Kd.C_below HB.out hb) (q : Int) (by omega) (by omega)
      have hx : l[q]? = some (rd_T39 l (q : Int)) := by simp [rd_T39, List.getD, List.getElem?_eq_getElem (show q < l.length by omega)]
      have ho := hok.out _ (List.mem_of_getElem? hx)
      have hst := Aside0.mk (hpl.out.trans (placeS_step (j := 0) hx))
      generalize rd_T39 l (q : Int) = s at hx z0 z1 ho hst
      replace hx := Aside0.mk hx
      simp only [Int.toNat_natCast] at z0 z1
      obtain ⟨o0, o1, o2, o3⟩ := ho
      have q1 : (0 : Int) ≤ (q : Int) := by omega
      have q2 : (q : Int) < (l.length : Int) := by omega
      have hb2 := hb.alloc hb.size (.cells #[.int .i64 s.f0, .int .i64 s.f1] 39)
      have hX2 := kept2 hX.out ((Below.refl _ wr).alloc (Nat.le_refl _) (.cells #[.int .i64 s.f0, .int .i64 s.f1] 39))
      by_cases hs : s.f0 ≤ 0
      · have ks : decide (s.f0 ≤ 0) = true := decide_eq_true hs
        have hv := Aside0.mk (hst.out.trans (if_pos hs))
        replace hs := Aside0.mk hs
        go_wp2
        rw [Exit.noGoto_ret]
        go_ret
        exact ⟨congrArg (fun z => Ending.returned (Value.int .i64 z)) (by rw [hv.out]; omega), hb2⟩
      · have ks : decide (s.f0 ≤ 0) = false := decide_eq_false hs
        have hv := Aside0.mk (hst.out.trans (if_neg hs))
        replace hs := Aside0.mk hs
        replace hX2 := Aside0.mk hX2
        go_wp2
        go_roundw
        case rel => exact ⟨q, rfl, rfl, by omega, hv, hX2, hb2⟩
        case measure => simp [intOf]
set_option maxHeartbeats 4000000 in
theorem Place_high (A B : Option Addr) (n c c2 : Nat) (l : List S39) (i : Int) (w : World) (hl : l ≠ []) (hB : Kd.C k39 w B l.length l) (hc : l.length ≤ c2) (hl2 : l.length ≤ 1000000) (hn : n ≤ 1000000) (hok : segsOk l) (h0 : (n : Int) < i) (h1 : 0 < n) :
    Calls Try.prog 14 #[.agg #[.slice A n c, .slice B l.length c2], .int .i64 i] w fun e w' => e = .returned (.int .i64 (placeS l ((n : Int) - 1) + 1)) ∧ Below w.heap.size w w' := by
  have hp : 0 < l.length := List.length_pos_iff.2 hl
  have HB := Aside0.mk hB
  clear hB
  replace hok := Aside0.mk hok
  have e0 : ((l.length : Int) == 0) = false := beq_eq_false_iff_ne.2 (by omega)
  have e1 : ((n : Int) == (n : Int)) = true := beq_iff_eq.2 rfl
  have g0 : ¬ (n : Int) ≤ 0 := by omega
  have g1 : ¬ i ≤ (n : Int) := by omega
  have hW := heap_at w (.cells #[.slice A n c, .slice B l.length c2] 37) w.heap.size rfl
  have hBl := (Below.refl w.heap.size w).alloc (Nat.le_refl _) (.cells #[.slice A n c, .slice B l.length c2] 37)
  obtain ⟨W0, hW0⟩ : ∃ W0, w.alloc (.cells #[.slice A n c, .slice B l.length c2] 37) = W0 := ⟨_, rfl⟩
  rw [hW0] at hW hBl
  replace hW := Aside0.mk hW
  replace hBl := Aside0.mk hBl
  replace hW0 := Aside0.mk hW0
  go_enter Try.func14, Try.ntmps14
  go_wp2
  go_step3
  go_wp2
  go_step3
  go_wp2
  go_loopw [6, 7] (fun v6 v7 wr => ∃ q : Nat, v6 = .int .i64 0 ∧ v7 = .int .i64 ((q : Int) - 1) ∧ q ≤ l.length ∧ Aside0 (placeS l ((n : Int) - 1) = placeS (l.take q) ((n : Int) - 1)) ∧ Aside0 (wr.heap[w.heap.size]? = some (.cells #[.slice A n c, .slice B l.length c2] 37 (0, 0))) ∧ Below w.heap.size w wr)
    (fun _ v7 _ => (intOf v7 + 1).toNat)
  case atStart => exact ⟨l.length, rfl, rfl, Nat.le_refl _, ⟨by rw [List.take_length]⟩, ⟨by rw [hW0.out]; exact hW.out⟩, by rw [hW0.out]; exact hBl.out⟩
  case round =>
    obtain ⟨q, rfl, rfl, hq, hpl, hX, hb⟩ := hrel
    obtain ⟨y0, y1⟩ := cells2F hX.out
    cases q with
    | zero =>
      go_wp2
      (try rw [Exit.noGoto_ret])
      go_ret
      exact ⟨congrArg (fun z => Ending.returned (Value.int .i64 z)) (by rw [hpl.out]; rfl), hb⟩
    | succ q =>
      obtain ⟨ad, rfl, z0, z1⟩ := at_T39 (Kd.C_below HB.out hb) (q : Int) (by omega) (by omega)
      have hx : l[q]? = some (rd_T39 l (q : Int)) := by simp [rd_T39, List.getD, List.getElem?_eq_getElem (show q < l.length by omega)]
      have ho := hok.out _ (List.mem_of_getElem? hx)
      have hst := Aside0.mk (hpl.out.trans (placeS_step (j := ((n : Int) - 1)) hx))
      generalize rd_T39 l (q : Int) = s at hx z0 z1 ho hst
      replace hx := Aside0.mk hx
      simp only [Int.toNat_natCast] at z0 z1
      obtain ⟨o0, o1, o2, o3⟩ := ho
      have q1 : (0 : Int) ≤ (q : Int) := by omega
      have q2 : (q : Int) < (l.length : Int) := by omega
      have hb2 := hb.alloc hb.size (.cells #[.int .i64 s.f0, .int .i64 s.f1] 39)
      have hX2 := kept2 hX.out ((Below.refl _ wr).alloc (Nat.le_refl _) (.cells #[.int .i64 s.f0, .int .i64 s.f1] 39))
      by_cases hs : s.f0 ≤ ((n : Int) - 1)
      · have ks : decide (s.f0 ≤ ((n : Int) - 1)) = true := decide_eq_true hs
        have hv := Aside0.mk (hst.out.trans (if_pos hs))
        replace hs := Aside0.mk hs
        go_wp2
        rw [Exit.noGoto_ret]
        go_ret
        exact ⟨congrArg (fun z => Ending.returned (Value.int .i64 z)) (by rw [hv.out]), hb2⟩
      · have ks : decide (s.f0 ≤ ((n : Int) - 1)) = false := decide_eq_false hs
        have hv := Aside0.mk (hst.out.trans (if_neg hs))
        replace hs := Aside0.mk hs
        replace hX2 := Aside0.mk hX2
        go_wp2
        go_roundw
        case rel => exact ⟨q, rfl, rfl, by omega, hv, hX2, hb2⟩
        case measure => simp [intOf]
set_option maxHeartbeats 4000000 in
theorem Place_last (A B : Option Addr) (n c c2 : Nat) (l : List S39) (w : World) (hl : l ≠ []) (hB : Kd.C k39 w B l.length l) (hc : l.length ≤ c2) (hl2 : l.length ≤ 1000000) (hn : n ≤ 1000000) (hok : segsOk l) (h1 : 0 < n) :
    Calls Try.prog 14 #[.agg #[.slice A n c, .slice B l.length c2], .int .i64 (n : Int)] w fun e w' => e = .returned (.int .i64 (placeS l ((n : Int) - 1) + 1)) ∧ Below w.heap.size w w' := by
  have hp : 0 < l.length := List.length_pos_iff.2 hl
  have HB := Aside0.mk hB
  clear hB
  replace hok := Aside0.mk hok
  have e0 : ((l.length : Int) == 0) = false := beq_eq_false_iff_ne.2 (by omega)
  have e1 : ((n : Int) == (n : Int)) = true := beq_iff_eq.2 rfl
  have g0 : ¬ (n : Int) ≤ 0 := by omega
  have hW := heap_at w (.cells #[.slice A n c, .slice B l.length c2] 37) w.heap.size rfl
  have hBl := (Below.refl w.heap.size w).alloc (Nat.le_refl _) (.cells #[.slice A n c, .slice B l.length c2] 37)
  obtain ⟨W0, hW0⟩ : ∃ W0, w.alloc (.cells #[.slice A n c, .slice B l.length c2] 37) = W0 := ⟨_, rfl⟩
  rw [hW0] at hW hBl
  replace hW := Aside0.mk hW
  replace hBl := Aside0.mk hBl
  replace hW0 := Aside0.mk hW0
  go_enter Try.func14, Try.ntmps14
  go_wp2
  go_step3
  go_wp2
  go_step3
  go_wp2
  go_loopw [6, 7] (fun v6 v7 wr => ∃ q : Nat, v6 = .int .i64 0 ∧ v7 = .int .i64 ((q : Int) - 1) ∧ q ≤ l.length ∧ Aside0 (placeS l ((n : Int) - 1) = placeS (l.take q) ((n : Int) - 1)) ∧ Aside0 (wr.heap[w.heap.size]? = some (.cells #[.slice A n c, .slice B l.length c2] 37 (0, 0))) ∧ Below w.heap.size w wr)
    (fun _ v7 _ => (intOf v7 + 1).toNat)
  case atStart => exact ⟨l.length, rfl, rfl, Nat.le_refl _, ⟨by rw [List.take_length]⟩, ⟨by rw [hW0.out]; exact hW.out⟩, by rw [hW0.out]; exact hBl.out⟩
  case round =>
    obtain ⟨q, rfl, rfl, hq, hpl, hX, hb⟩ := hrel
    obtain ⟨y0, y1⟩ := cells2F hX.out
    cases q with
    | zero =>
      go_wp2
      (try rw [Exit.noGoto_ret])
      go_ret
      exact ⟨congrArg (fun z => Ending.returned (Value.int .i64 z)) (by rw [hpl.out]; rfl), hb⟩
    | succ q =>
      obtain ⟨ad, rfl, z0, z1⟩ := at_T39 (Kd.C_below HB.out hb) (q : Int) (by omega) (by omega)
      have hx : l[q]? = some (rd_T39 l (q : Int)) := by simp [rd_T39, List.getD, List.getElem?_eq_getElem (show q < l.length by omega)]
      have ho := hok.out _ (List.mem_of_getElem? hx)
      have hst := Aside0.mk (hpl.out.trans (placeS_step (j := ((n : Int) - 1)) hx))
      generalize rd_T39 l (q : Int) = s at hx z0 z1 ho hst
      replace hx := Aside0.mk hx
      simp only [Int.toNat_natCast] at z0 z1
      obtain ⟨o0, o1, o2, o3⟩ := ho
      have q1 : (0 : Int) ≤ (q : Int) := by omega
      have q2 : (q : Int) < (l.length : Int) := by omega
      have hb2 := hb.alloc hb.size (.cells #[.int .i64 s.f0, .int .i64 s.f1] 39)
      have hX2 := kept2 hX.out ((Below.refl _ wr).alloc (Nat.le_refl _) (.cells #[.int .i64 s.f0, .int .i64 s.f1] 39))
      by_cases hs : s.f0 ≤ ((n : Int) - 1)
      · have ks : decide (s.f0 ≤ ((n : Int) - 1)) = true := decide_eq_true hs
        have hv := Aside0.mk (hst.out.trans (if_pos hs))
        replace hs := Aside0.mk hs
        go_wp2
        rw [Exit.noGoto_ret]
        go_ret
        exact ⟨congrArg (fun z => Ending.returned (Value.int .i64 z)) (by rw [hv.out]), hb2⟩
      · have ks : decide (s.f0 ≤ ((n : Int) - 1)) = false := decide_eq_false hs
        have hv := Aside0.mk (hst.out.trans (if_neg hs))
        replace hs := Aside0.mk hs
        replace hX2 := Aside0.mk hX2
        go_wp2
        go_roundw
        case rel => exact ⟨q, rfl, rfl, by omega, hv, hX2, hb2⟩
        case measure => simp [intOf]
def handPlace (n : Nat) (l : List S39) (i : Int) : Int := if i ≤ 0 then placeS l 0 else if i < n then placeS l i else placeS l ((n : Int) - 1) + 1
/-- Of a message that has bytes. -/
theorem Place_calls (A B : Option Addr) (n c c2 : Nat) (l : List S39) (i : Int) (w : World) (hl : l ≠ []) (hB : Kd.C k39 w B l.length l) (hc : l.length ≤ c2) (hl2 : l.length ≤ 1000000) (hn : n ≤ 1000000) (hok : segsOk l) (h1 : 0 < n) :
    Calls Try.prog 14 #[.agg #[.slice A n c, .slice B l.length c2], .int .i64 i] w fun e w' => e = .returned (.int .i64 (handPlace n l i)) ∧ Below w.heap.size w w' := by
  unfold handPlace
  by_cases g0 : i ≤ 0
  · rw [if_pos g0]
    exact Place_low A B n c c2 l i w hl hB hc hl2 hn hok g0 h1
  · rw [if_neg g0]
    by_cases g1 : i < n
    · rw [if_pos g1]
      exact Place_pos A B n c c2 l i w hl hB hc hl2 hn hok (by omega) g1
    · rw [if_neg g1]
      by_cases g2 : i = n
      · subst g2
        exact Place_last A B n c c2 l w hl hB hc hl2 hn hok h1
      · exact Place_high A B n c c2 l i w hl hB hc hl2 hn hok (by omega) h1
theorem segInfo : (Try.prog.info? 39).map (fun i => (i.zero, i.size, i.bytes)) = some (some (.agg #[.int .i64 0, .int .i64 0]), 2, 16) := by kernel_rfl
theorem byteInfo : (Try.prog.info? 5).map (fun i => (i.zero, i.size, i.bytes)) = some (some (.int .u8 0), 1, 1) := by kernel_rfl
theorem seg_KM {w w' : World} {base : Nat} {ok : Nat → Prop} {x : S39} {cs : List Value} (h : k39.K w x cs) : k39.M w' base ok x cs := by
  obtain ⟨c0, c1, rfl, h0, h1⟩ := h
  exact ⟨c0, c1, rfl, h0, h1⟩
theorem empty_R {α : Type} (d : Kd α) (e : Nat) (W : World) : d.R e (W.alloc (.cells #[] e)) W.heap.size (fun k => W.heap.size ≤ k) (.slice (some ⟨W.heap.size, 0, none⟩) 0 0) [] := by
  refine ⟨fun k hk => ?_, [], World.ownsRow_made W #[] 0 (Nat.le_refl _) (by simp) (by simp), ⟨by simp, fun j p h => by simp at h⟩⟩
  have : W.heap.size = k := by simpa [Value.ownBlock] using hk
  omega
set_option maxHeartbeats 1000000 in
theorem bytes_clone (W : World) (ad : Addr) (n c : Nat) (xs : List Int) (hn : n ≤ 1000000) (hC : (Kd.int .u8).C W (some ad) n xs) :
    Calls Try.prog 23 #[.slice (some ad) n c] W fun e W' => ∃ v, e = .returned v ∧ Below W.heap.size W W' ∧ (Kd.int .u8).R 5 W' W.heap.size (fun k => W.heap.size ≤ k) v xs := by
  have hC' := Aside0.mk hC
  have hN := Aside0.mk (empty_R (Kd.int .u8) 5 W)
  clear hC
  have hl := fun W => run_eql_slice_nil W 22 5 (some ad) n c Try.underlying22
  simp only [Option.isNone_some] at hl
  go_enter Try.func23, Try.ntmps23
  go_wp2_with (first
    | ((with_reducible refine gate_builtin (b := .append) rfl ?_); refine Kd.R_append_rows (Kd.int .u8) (Rr := (Kd.int .u8).K W) (w0 := W) W.heap.size rfl _ _ 22 5 _ 1 rfl Try.underlying22 byteInfo rfl (by decide) (by decide) (.slice (some ⟨W.heap.size, 0, none⟩) 0 0) [] xs (some ad) n c (fun k => W.heap.size ≤ k) (fun _ => False) rfl rfl hN.out (Kd.C_alloc hC'.out _) (fun _ _ h => h) (fun k hk => hk.elim) (fun k hk => by rw [World.size_alloc] at hk; omega) ((Below.refl _ W).alloc (Nat.le_refl _) _) (by rw [World.size_alloc]; omega) (by rw [List.length_nil]; omega) ?_; intro v1 w1 hN1 hB1 _ _; replace hN1 := Aside0.mk hN1))
  go_ret
  exact ⟨_, rfl, hB1, hN1.out⟩
set_option maxHeartbeats 1000000 in
theorem segs_clone (W : World) (ad : Addr) (n c : Nat) (xs : List S39) (hn : n ≤ 1000000) (hC : Kd.C k39 W (some ad) n xs) :
    Calls Try.prog 24 #[.slice (some ad) n c] W fun e W' => ∃ v, e = .returned v ∧ Below W.heap.size W W' ∧ Kd.R k39 39 W' W.heap.size (fun k => W.heap.size ≤ k) v xs := by
  have hC' := Aside0.mk hC
  have hN := Aside0.mk (empty_R k39 39 W)
  clear hC
  have hl := fun W => run_eql_slice_nil W 35 39 (some ad) n c Try.underlying35
  simp only [Option.isNone_some] at hl
  go_enter Try.func24, Try.ntmps24
  go_wp2_with (first
    | ((with_reducible refine gate_builtin (b := .append) rfl ?_); refine Kd.R_append_rows k39 (Rr := k39.K W) (w0 := W) W.heap.size rfl _ _ 35 39 _ 16 rfl Try.underlying35 segInfo rfl (by decide) (by decide) (.slice (some ⟨W.heap.size, 0, none⟩) 0 0) [] xs (some ad) n c (fun k => W.heap.size ≤ k) (fun _ => False) rfl rfl hN.out (Kd.C_alloc hC'.out _) (fun _ _ h => seg_KM h) (fun k hk => hk.elim) (fun k hk => by rw [World.size_alloc] at hk; omega) ((Below.refl _ W).alloc (Nat.le_refl _) _) (by rw [World.size_alloc]; omega) (by rw [List.length_nil]; omega) ?_; intro v1 w1 hN1 hB1 _ _; replace hN1 := Aside0.mk hN1))
  go_ret
  exact ⟨_, rfl, hB1, hN1.out⟩
theorem bytes_clone2 (W : World) (ad : Addr) (n c : Nat) (xs : List Int) (hn : n ≤ 1000000) (hC : (Kd.int .u8).C W (some ad) n xs) :
    Calls Try.prog 23 #[.slice (some ad) n c] W fun e W' => ∃ A1 c1, e = .returned (.slice A1 n c1) ∧ n ≤ c1 ∧ Below W.heap.size W W' ∧ (Kd.int .u8).R 5 W' W.heap.size (fun k => W.heap.size ≤ k) (.slice A1 n c1) xs := by
  refine (bytes_clone W ad n c xs hn hC).mono ?_
  rintro e W' ⟨v, rfl, hb, hr⟩
  obtain ⟨A1, c1, rfl, hl, -⟩ := Kd.R_reads hr
  have := hC.1
  subst this
  exact ⟨A1, c1, rfl, hl, hb, hr⟩
theorem segs_clone2 (W : World) (ad : Addr) (n c : Nat) (xs : List S39) (hn : n ≤ 1000000) (hC : Kd.C k39 W (some ad) n xs) :
    Calls Try.prog 24 #[.slice (some ad) n c] W fun e W' => ∃ A1 c1, e = .returned (.slice A1 n c1) ∧ n ≤ c1 ∧ Below W.heap.size W W' ∧ Kd.R k39 39 W' W.heap.size (fun k => W.heap.size ≤ k) (.slice A1 n c1) xs := by
  refine (segs_clone W ad n c xs hn hC).mono ?_
  rintro e W' ⟨v, rfl, hb, hr⟩
  obtain ⟨A1, c1, rfl, hl, -⟩ := Kd.R_reads hr
  have := hC.1
  subst this
  exact ⟨A1, c1, rfl, hl, hb, hr⟩
end Go.Proofs.Ytmdmllfbdpoeeaa
