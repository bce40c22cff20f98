/- The law ShapeOwn returns true: what is changed in forms that were told changes nothing of what is told then; the numbers are ints. -/
import Derived.Test.YtjlpgndcomligaaPureShapeOwn
namespace Go.Proofs.Ytjlpgndcomligaa
open Go Go.RowKit Go.Maps Go.Proofs.Hand Go.Proofs.Ytjlpgndcomligaa.PShapeOwn Go.Proofs.Ytjlpgndcomligaa.Pure Go.Proofs.YtjlpgndcomligaaW.PrintWords Go.Proofs.YtjlpgndcomligaaW.PrintLast Go.Proofs.YtjlpgndcomligaaW.PrintMore
set_option maxRecDepth 100000

/-- A row of forms of the call's own, below a block. -/
def Owns (B T : Nat) (W : World) (v : Value) (n : Nat) : Prop := ∃ inner, W.ownsRow B 24 6 v n inner ∧ ∀ k, v.ownBlock = some k → k < T
theorem Owns.of_N {B base T : Nat} {W : World} {ok : Nat → Prop} {v : Value} {l : List Form} (h : Kd.N kForm 24 W base ok v l) (hB : B ≤ base) (hT : W.heap.size ≤ T) : Owns B T W v l.length := by
  have hlt := Kd.N_lt h
  obtain ⟨_, rows, hl, hR, _⟩ := h
  obtain ⟨inner, ho, _⟩ := hR.2
  rw [hl] at ho
  exact ⟨inner, own_base_le ho hB, fun k hk => Nat.lt_of_lt_of_le (hlt k hk) hT⟩
theorem Owns.keep {B T : Nat} {W W' : World} {v : Value} {n : Nat} (h : Owns B T W v n) (hk : ∀ k, k < T → W'.heap[k]? = W.heap[k]?) : Owns B T W' v n := by
  obtain ⟨inner, ho, hlt⟩ := h
  refine ⟨inner, ⟨ho.1, ?_⟩, hlt⟩
  rcases ho.2 with h0 | ⟨g, cap, cur, rfl, hg, hb, rest⟩
  · exact .inl h0
  · exact .inr ⟨g, cap, cur, rfl, hg, (hk g (hlt g rfl)).trans hb, rest⟩
theorem Owns.set {B T : Nat} {W : World} {v : Value} {n : Nat} (h : Owns B T W v n) (b o : Nat) (u : Value) : Owns B T (W.setCell ⟨b, o, none⟩ u) v n := by
  obtain ⟨inner, ho, hlt⟩ := h
  rcases ho.2 with h0 | ⟨g, cap, cur, rfl, hg, hb, h1, h2, h3, h4⟩
  · exact ⟨inner, ⟨ho.1, .inl h0⟩, hlt⟩
  · by_cases e : b = g
    · refine ⟨((cur.setIfInBounds o u).toList).take (n * 6), ⟨?_, .inr ⟨g, cap, cur.setIfInBounds o u, rfl, hg, ?_, h1, h2, by simpa using h3, rfl⟩⟩, hlt⟩
      · rw [List.length_take, Array.length_toList, Array.size_setIfInBounds, h3]
        have : n * 6 ≤ cap * 6 := Nat.mul_le_mul_right 6 h1
        omega
      · subst e
        simp [World.setCell, Array.getElem?_modify, hb]
    · exact ⟨inner, ⟨ho.1, .inr ⟨g, cap, cur, rfl, hg, (heap_set_ne _ _ _ _ (fun h => e h.symm)).trans hb, h1, h2, h3, h4⟩⟩, hlt⟩
theorem Owns.mono {B T T' : Nat} {W : World} {v : Value} {n : Nat} (h : Owns B T W v n) (hT : T ≤ T') : Owns B T' W v n := let ⟨i, ho, hlt⟩ := h; ⟨i, ho, fun k hk => Nat.lt_of_lt_of_le (hlt k hk) hT⟩
/-- What stays through the law's loop: the row of the three forms; the forms' own rows, whatever they hold. -/
structure Lp (w : World) (T : Nat) (cs : Array Value) (s1 s2 s3 : Value) (n1 n2 n3 : Nat) (W : World) : Prop where
  lit : W.heap[T]? = some (.cells cs 24 (0, 0))
  o1 : Owns w.heap.size T W s1 n1
  o2 : Owns w.heap.size T W s2 n2
  o3 : Owns w.heap.size T W s3 n3
  bl : Below w.heap.size w W
theorem Lp.six {w W : World} {T : Nat} {cs : Array Value} {s1 s2 s3 : Value} {n1 n2 n3 : Nat} (h : Lp w T cs s1 s2 s3 n1 n2 n3 W) {g : Nat} (hg : w.heap.size ≤ g) (hT : g < T) (i : Nat) (u0 u1 u2 u3 u4 u5 : Value) :
    Lp w T cs s1 s2 s3 n1 n2 n3 ((((((W.setCell ⟨g, i, none⟩ u0).setCell ⟨g, i + 1, none⟩ u1).setCell ⟨g, i + 2, none⟩ u2).setCell ⟨g, i + 3, none⟩ u3).setCell ⟨g, i + 4, none⟩ u4).setCell ⟨g, i + 5, none⟩ u5) ∧
      (∀ k, k ≠ g → ((((((W.setCell ⟨g, i, none⟩ u0).setCell ⟨g, i + 1, none⟩ u1).setCell ⟨g, i + 2, none⟩ u2).setCell ⟨g, i + 3, none⟩ u3).setCell ⟨g, i + 4, none⟩ u4).setCell ⟨g, i + 5, none⟩ u5).heap[k]? = W.heap[k]?) := by
  have hoth : ∀ k, k ≠ g → ((((((W.setCell ⟨g, i, none⟩ u0).setCell ⟨g, i + 1, none⟩ u1).setCell ⟨g, i + 2, none⟩ u2).setCell ⟨g, i + 3, none⟩ u3).setCell ⟨g, i + 4, none⟩ u4).setCell ⟨g, i + 5, none⟩ u5).heap[k]? = W.heap[k]? := fun k hk => by
    rw [heap_set_ne _ _ _ _ (by simpa using hk), heap_set_ne _ _ _ _ (by simpa using hk), heap_set_ne _ _ _ _ (by simpa using hk), heap_set_ne _ _ _ _ (by simpa using hk), heap_set_ne _ _ _ _ (by simpa using hk), heap_set_ne _ _ _ _ (by simpa using hk)]
  refine ⟨⟨(hoth T (by omega)).trans h.lit, ?_, ?_, ?_, ?_⟩, hoth⟩
  · exact (((((h.o1.set _ _ _).set _ _ _).set _ _ _).set _ _ _).set _ _ _).set _ _ _
  · exact (((((h.o2.set _ _ _).set _ _ _).set _ _ _).set _ _ _).set _ _ _).set _ _ _
  · exact (((((h.o3.set _ _ _).set _ _ _).set _ _ _).set _ _ _).set _ _ _).set _ _ _
  · exact (((((h.bl.setCell (p := ⟨g, i, none⟩) hg _).setCell (p := ⟨g, i + 1, none⟩) hg _).setCell (p := ⟨g, i + 2, none⟩) hg _).setCell (p := ⟨g, i + 3, none⟩) hg _).setCell (p := ⟨g, i + 4, none⟩) hg _).setCell (p := ⟨g, i + 5, none⟩) hg _
theorem Lp.alloc {w W : World} {T : Nat} {cs : Array Value} {s1 s2 s3 : Value} {n1 n2 n3 : Nat} (h : Lp w T cs s1 s2 s3 n1 n2 n3 W) (o : Obj) : Lp w T cs s1 s2 s3 n1 n2 n3 (W.alloc o) := by
  have hT : T < W.heap.size := (Array.getElem?_eq_some_iff.1 h.lit).1
  have hk : ∀ k, k < T → (W.alloc o).heap[k]? = W.heap[k]? := fun k hk => Below.heap_alloc _ _ _ (by omega)
  exact ⟨(Below.heap_alloc _ _ _ hT).trans h.lit, h.o1.keep hk, h.o2.keep hk, h.o3.keep hk, h.bl.alloc h.bl.size _⟩
/-- One of the rows' cells. -/
theorem Owns.cells {B T : Nat} {W : World} {v : Value} {n i : Nat} (h : Owns B T W v n) (hi : i < n) : ∃ g, ∃ c, v = .slice (some ⟨g, 0, none⟩) n c ∧ B ≤ g ∧ g < T ∧ (∀ q, q < 6 → ∃ u, W.cell? ⟨g, i * 6 + q, none⟩ = some u) ∧ (∀ q, W.frozen? ⟨g, q, none⟩ = false) := by
  obtain ⟨inner, ho, hlt⟩ := h
  rcases ho.2 with ⟨_, h0⟩ | ⟨g, cap, cur, rfl, hg, hb, h1, h2, h3, h4⟩
  · omega
  · refine ⟨g, cap, rfl, hg, hlt g rfl, fun q hq => ?_, fun q => by simp [World.frozen?, hb]⟩
    have hs : i * 6 + q < cur.size := by
      rw [h3]
      have : (i + 1) * 6 ≤ cap * 6 := Nat.mul_le_mul_right 6 (by omega)
      omega
    exact ⟨cur[i * 6 + q], by simp [World.cell?, hb, hs]⟩
set_option maxHeartbeats 8000000 in
theorem ShapeOwn_walk (a0 a1 : Int) (w : World) (w0 : (Lit.int .i64 a0).wf = true) (w1 : (Lit.int .i64 a1).wf = true) :
    Calls Try.prog 5 #[.int .i64 a0, .int .i64 a1] w fun e w' => e = .returned (.bool true) ∧ Below w.heap.size w w' := by
  obtain ⟨Ka, hal⟩ := alive_true
  have hn1 := look_shortN keysSpot extShort (a0, a1)
  have hn2 := look_shortN keysInt msgShort a1
  obtain ⟨K1, hs1⟩ := tell_same _ hn1
  obtain ⟨K2, hs2⟩ := tell_same _ hn2
  obtain ⟨K3, hs3⟩ := same_refl 9 ⟨3, 0, 0, 0, 0, [⟨0, 2, 0, 0, 0, []⟩, ⟨1, 2, 0, 65535, 1, []⟩]⟩ (by decide +kernel)
  have hal := Aside0.mk (hal _ (Nat.le_refl _))
  have hs1 := Aside0.mk (hs1 _ (Nat.le_refl _))
  have hs2 := Aside0.mk (hs2 _ (Nat.le_refl _))
  have hs3 := Aside0.mk (hs3 _ (Nat.le_refl _))
  have hs3c : ∀ (A11 : Option Addr) (c11 : Nat) (A12 : Option Addr) (c12 : Nat) (W : World), Kd.C kForm W A11 ([⟨0, 2, 0, 0, 0, []⟩, ⟨1, 2, 0, 65535, 1, []⟩] : List Form).length [⟨0, 2, 0, 0, 0, []⟩, ⟨1, 2, 0, 65535, 1, []⟩] → ([⟨0, 2, 0, 0, 0, []⟩, ⟨1, 2, 0, 65535, 1, []⟩] : List Form).length ≤ c11 → Kd.C kForm W A12 ([⟨0, 2, 0, 0, 0, []⟩, ⟨1, 2, 0, 65535, 1, []⟩] : List Form).length [⟨0, 2, 0, 0, 0, []⟩, ⟨1, 2, 0, 65535, 1, []⟩] → ([⟨0, 2, 0, 0, 0, []⟩, ⟨1, 2, 0, 65535, 1, []⟩] : List Form).length ≤ c12 →
      Calls Try.prog 10 #[.agg #[.int .i64 3, .int .i64 0, .int .i64 0, .int .i64 0, .int .i64 0, .slice A11 2 c11], .agg #[.int .i64 3, .int .i64 0, .int .i64 0, .int .i64 0, .int .i64 0, .slice A12 2 c12]] W fun e w' => e = .returned (.bool true) ∧ Below W.heap.size W w' :=
    fun A11 c11 A12 c12 W h1 h2 h3 h4 => passepartoutref04_Same.calls _ 3 0 0 0 0 A11 c11 [⟨0, 2, 0, 0, 0, []⟩, ⟨1, 2, 0, 65535, 1, []⟩] 3 0 0 0 0 A12 c12 [⟨0, 2, 0, 0, 0, []⟩, ⟨1, 2, 0, 65535, 1, []⟩] true W h1 h2 h3 h4 hs3.out
  replace hs3c := Aside0.mk hs3c
  have fe : Aside0 (shape_Ext.f a0 a1 = some (tell (look keysSpot extTab (a0, a1)))) := Aside0.mk (by unfold shape_Ext.f; rw [if_pos ⟨w0, w1⟩])
  have fm : Aside0 (shape_Message.f a1 = some (tell (look keysInt msgTab a1))) := Aside0.mk (by unfold shape_Message.f; rw [if_pos w1])
  have fi : Aside0 (shape_Item.f = some (3, 0, 0, 0, 0, [⟨0, 2, 0, 0, 0, []⟩, ⟨1, 2, 0, 65535, 1, []⟩])) := Aside0.mk rfl
  have fj : Aside0 (r13_Item.f = some (3, 0, 0, 0, 0, [⟨0, 2, 0, 0, 0, []⟩, ⟨1, 2, 0, 65535, 1, []⟩])) := Aside0.mk rfl
  have fl1 : Aside0 ((tell (look keysSpot extTab (a0, a1))).2.2.2.2.2.1.length ≤ 1000) := Aside0.mk (by simp only [shortN, Bool.and_eq_true] at hn1; exact Nat.le_of_ble_eq_true hn1.1)
  have fl2 : Aside0 ((tell (look keysInt msgTab a1)).2.2.2.2.2.1.length ≤ 1000) := Aside0.mk (by simp only [shortN, Bool.and_eq_true] at hn2; exact Nat.le_of_ble_eq_true hn2.1)
  clear hn1 hn2
  have fr : Aside0 (r13_Ext.f a0 a1 = some (tell (look keysSpot extTab (a0, a1)))) := fe
  have fd : Aside0 (r13_Message.f a1 = some (tell (look keysInt msgTab a1))) := fm
  generalize tell (look keysSpot extTab (a0, a1)) = T1 at hs1 fe fr fl1
  generalize tell (look keysInt msgTab a1) = T2 at hs2 fm fd fl2
  obtain ⟨f1, f2, f3, f4, f5, f6, f7⟩ := T1
  obtain ⟨g1, g2, g3, g4, g5, g6, g7⟩ := T2
  simp only at hs1 hs2 fl1 fl2
  go_enter Try.func5, Try.ntmps5
  go_wp2_with (first
    | (go_at_call 9; refine (passepartoutlaw13_alive.calls _ true _ hal.out).mono ?_; rintro e w1 ⟨rfl, hb1⟩; have hB1 := Aside0.mk hb1)
    | (go_at_call 7; refine (shape_Ext.calls a0 a1 f1 f2 f3 f4 f5 f6 f7 _ fe.out).mono ?_; rintro e w2 ⟨v1, rfl, hN1, hb2⟩; obtain ⟨A1, c1, rfl, -, -⟩ := Kd.N_reads hN1; have hB2 := Aside0.mk (hB1.out.trans (hb2.mono hB1.out.size)); replace hN1 := Aside0.mk hN1)
    | (go_at_call 14; refine (shape_Message.calls a1 g1 g2 g3 g4 g5 g6 g7 _ fm.out).mono ?_; rintro e w3 ⟨v2, rfl, hN2, hb3⟩; obtain ⟨A2, c2, rfl, -, -⟩ := Kd.N_reads hN2; have hb3' := Aside0.mk hb3; have hB3 := Aside0.mk ((hB2.out.alloc hB2.out.size _).trans (hb3.mono (by have := hB2.out.size; rw [World.size_alloc]; omega))); replace hN2 := Aside0.mk hN2)
    | (go_at_call 16; refine (shape_Item.calls 3 0 0 0 0 [⟨0, 2, 0, 0, 0, []⟩, ⟨1, 2, 0, 65535, 1, []⟩] _ fi.out).mono ?_; rintro e w4 ⟨v3, rfl, hN3, hb4⟩; obtain ⟨A3, c3, rfl, -, -⟩ := Kd.N_reads hN3; replace hN3 := Aside0.mk hN3; have z3 := hb3'.out.size; have z4 := hb4.size; rw [World.size_alloc] at z3 z4; have q2 : w4.heap[w3.heap.size]? = some (.cells #[.int .i64 g1, .int .i64 g2, .int .i64 g3, .int .i64 g4, .int .i64 g5, .slice A2 g6.length c2] 24) := (hb4.block _ (by rw [World.size_alloc]; omega)).trans (heap_at w3 _ _ rfl); have q1 : w4.heap[w2.heap.size]? = some (.cells #[.int .i64 f1, .int .i64 f2, .int .i64 f3, .int .i64 f4, .int .i64 f5, .slice A1 f6.length c1] 24) := (hb4.block _ (by rw [World.size_alloc]; omega)).trans ((Below.heap_alloc _ _ _ (by omega)).trans ((hb3'.out.block _ (by rw [World.size_alloc]; omega)).trans (heap_at w2 _ _ rfl))); have r2 := (Below.heap_alloc w4 (.cells #[.int .i64 3, .int .i64 0, .int .i64 0, .int .i64 0, .int .i64 0, .slice A3 2 c3] 24) _ (Array.getElem?_eq_some_iff.1 q2).1).trans q2; have r1 := (Below.heap_alloc w4 (.cells #[.int .i64 3, .int .i64 0, .int .i64 0, .int .i64 0, .int .i64 0, .slice A3 2 c3] 24) _ (Array.getElem?_eq_some_iff.1 q1).1).trans q1; obtain ⟨y0, y1, y2, y3, y4, y5⟩ := cells6 r1; obtain ⟨x0, x1, x2, x3, x4, x5⟩ := cells6 r2; have hN1' := Aside0.mk (Kd.N_below (Kd.N_alloc (Kd.N_below (Kd.N_alloc hN1.out (.cells #[.int .i64 f1, .int .i64 f2, .int .i64 f3, .int .i64 f4, .int .i64 f5, .slice A1 f6.length c1] 24)) hb3'.out) (.cells #[.int .i64 g1, .int .i64 g2, .int .i64 g3, .int .i64 g4, .int .i64 g5, .slice A2 g6.length c2] 24)) hb4); have hN2' := Aside0.mk (Kd.N_below (Kd.N_alloc hN2.out (.cells #[.int .i64 g1, .int .i64 g2, .int .i64 g3, .int .i64 g4, .int .i64 g5, .slice A2 g6.length c2] 24)) hb4); have hB4 := Aside0.mk ((hB3.out.alloc hB3.out.size (.cells #[.int .i64 g1, .int .i64 g2, .int .i64 g3, .int .i64 g4, .int .i64 g5, .slice A2 g6.length c2] 24)).trans (hb4.mono (by have := hB3.out.size; rw [World.size_alloc]; omega))); have z34 := Aside0.mk (And.intro z3 z4); clear q1 q2 r1 r2 z3 z4))
  obtain ⟨hz3, hz4⟩ := z34.out
  have hL0 : Lp w (w4.heap.size + 1) #[.int .i64 f1, .int .i64 f2, .int .i64 f3, .int .i64 f4, .int .i64 f5, .slice A1 f6.length c1, .int .i64 g1, .int .i64 g2, .int .i64 g3, .int .i64 g4, .int .i64 g5, .slice A2 g6.length c2, .int .i64 3, .int .i64 0, .int .i64 0, .int .i64 0, .int .i64 0, .slice A3 2 c3] (.slice A1 f6.length c1) (.slice A2 g6.length c2) (.slice A3 2 c3) f6.length g6.length 2 ((w4.alloc (.cells #[.int .i64 3, .int .i64 0, .int .i64 0, .int .i64 0, .int .i64 0, .slice A3 2 c3] 24)).alloc (.cells #[.int .i64 f1, .int .i64 f2, .int .i64 f3, .int .i64 f4, .int .i64 f5, .slice A1 f6.length c1, .int .i64 g1, .int .i64 g2, .int .i64 g3, .int .i64 g4, .int .i64 g5, .slice A2 g6.length c2, .int .i64 3, .int .i64 0, .int .i64 0, .int .i64 0, .int .i64 0, .slice A3 2 c3] 24)) := by
    have hk : ∀ k, k < w4.heap.size → ((w4.alloc (.cells #[.int .i64 3, .int .i64 0, .int .i64 0, .int .i64 0, .int .i64 0, .slice A3 2 c3] 24)).alloc (.cells #[.int .i64 f1, .int .i64 f2, .int .i64 f3, .int .i64 f4, .int .i64 f5, .slice A1 f6.length c1, .int .i64 g1, .int .i64 g2, .int .i64 g3, .int .i64 g4, .int .i64 g5, .slice A2 g6.length c2, .int .i64 3, .int .i64 0, .int .i64 0, .int .i64 0, .int .i64 0, .slice A3 2 c3] 24)).heap[k]? = w4.heap[k]? := fun k hk => (Below.heap_alloc _ _ _ (by rw [World.size_alloc]; omega)).trans (Below.heap_alloc _ _ _ hk)
    have e1 := hB1.out.size
    have e2 := hB2.out.size
    have e3 := hB3.out.size
    have e4 := hB4.out.size
    refine ⟨heap_at _ _ _ (by rw [World.size_alloc]), ?_, ?_, ?_, ?_⟩
    · exact ((Owns.of_N hN1'.out e1 (Nat.le_refl _)).keep hk).mono (Nat.le_succ _)
    · exact ((Owns.of_N hN2'.out (by rw [World.size_alloc]; omega) (Nat.le_refl _)).keep hk).mono (Nat.le_succ _)
    · exact ((Owns.of_N hN3.out (by rw [World.size_alloc]; omega) (Nat.le_refl _)).keep hk).mono (Nat.le_succ _)
    · exact (hB4.out.alloc e4 _).alloc (by rw [World.size_alloc]; omega) _
  obtain ⟨W0, hW0⟩ : ∃ W0, ((w4.alloc (.cells #[.int .i64 3, .int .i64 0, .int .i64 0, .int .i64 0, .int .i64 0, .slice A3 2 c3] 24)).alloc (.cells #[.int .i64 f1, .int .i64 f2, .int .i64 f3, .int .i64 f4, .int .i64 f5, .slice A1 f6.length c1, .int .i64 g1, .int .i64 g2, .int .i64 g3, .int .i64 g4, .int .i64 g5, .slice A2 g6.length c2, .int .i64 3, .int .i64 0, .int .i64 0, .int .i64 0, .int .i64 0, .slice A3 2 c3] 24)) = W0 := ⟨_, rfl⟩
  rw [hW0] at hL0
  generalize hT : w4.heap.size + 1 = T at hL0
  go_loopw [40] (fun v wr => ∃ j : Nat, j ≤ 3 ∧ v = .int .i64 (j : Int) ∧ Lp w T #[.int .i64 f1, .int .i64 f2, .int .i64 f3, .int .i64 f4, .int .i64 f5, .slice A1 f6.length c1, .int .i64 g1, .int .i64 g2, .int .i64 g3, .int .i64 g4, .int .i64 g5, .slice A2 g6.length c2, .int .i64 3, .int .i64 0, .int .i64 0, .int .i64 0, .int .i64 0, .slice A3 2 c3] (.slice A1 f6.length c1) (.slice A2 g6.length c2) (.slice A3 2 c3) f6.length g6.length 2 wr)
    (fun v _ => 3 - (intOf v).toNat)
  case atStart => exact ⟨0, by omega, rfl, by rw [hW0]; exact hL0⟩
  case round =>
    obtain ⟨j, hj, rfl, hL⟩ := hrel
    have hmx := mixed
    by_cases hlt : j < 3
    · obtain rfl | rfl | rfl : j = 0 ∨ j = 1 ∨ j = 2 := by omega
      · -- the form at 0
        have y0 : wr.cell? ⟨T, 0, none⟩ = some (.int .i64 f1) := Joins.cell_of_block hL.lit 0
        have y1 : wr.cell? ⟨T, 1, none⟩ = some (.int .i64 f2) := Joins.cell_of_block hL.lit 1
        have y2 : wr.cell? ⟨T, 2, none⟩ = some (.int .i64 f3) := Joins.cell_of_block hL.lit 2
        have y3 : wr.cell? ⟨T, 3, none⟩ = some (.int .i64 f4) := Joins.cell_of_block hL.lit 3
        have y4 : wr.cell? ⟨T, 4, none⟩ = some (.int .i64 f5) := Joins.cell_of_block hL.lit 4
        have y5 : wr.cell? ⟨T, 5, none⟩ = some (.slice A1 f6.length c1) := Joins.cell_of_block hL.lit 5
        replace hL := Aside0.mk hL
        go_wp2
        clear y0 y1 y2 y3 y4 y5
        have hL2 := hL.out.alloc (.cells #[.int .i64 f1, .int .i64 f2, .int .i64 f3, .int .i64 f4, .int .i64 f5, .slice A1 f6.length c1] 24)
        have hbx : (wr.alloc (.cells #[.int .i64 f1, .int .i64 f2, .int .i64 f3, .int .i64 f4, .int .i64 f5, .slice A1 f6.length c1] 24)).heap[wr.heap.size]? = some (.cells #[.int .i64 f1, .int .i64 f2, .int .i64 f3, .int .i64 f4, .int .i64 f5, .slice A1 f6.length c1] 24) := heap_at _ _ _ rfl
        have hTw : T < wr.heap.size := (Array.getElem?_eq_some_iff.1 hL.out.lit).1
        obtain ⟨W5, hW5⟩ : ∃ W5, wr.alloc (.cells #[.int .i64 f1, .int .i64 f2, .int .i64 f3, .int .i64 f4, .int .i64 f5, .slice A1 f6.length c1] 24) = W5 := ⟨_, rfl⟩
        rw [hW5] at hL2 hbx
        go_loopw [47] (fun v w5 => ∃ i : Nat, i ≤ f6.length ∧ v = .int .i64 (i : Int) ∧ Lp w T #[.int .i64 f1, .int .i64 f2, .int .i64 f3, .int .i64 f4, .int .i64 f5, .slice A1 f6.length c1, .int .i64 g1, .int .i64 g2, .int .i64 g3, .int .i64 g4, .int .i64 g5, .slice A2 g6.length c2, .int .i64 3, .int .i64 0, .int .i64 0, .int .i64 0, .int .i64 0, .slice A3 2 c3] (.slice A1 f6.length c1) (.slice A2 g6.length c2) (.slice A3 2 c3) f6.length g6.length 2 w5 ∧ w5.heap[wr.heap.size]? = some (.cells #[.int .i64 f1, .int .i64 f2, .int .i64 f3, .int .i64 f4, .int .i64 f5, .slice A1 f6.length c1] 24 (0, 0)))
          (fun v _ => f6.length - (intOf v).toNat)
        case atStart => exact ⟨0, Nat.zero_le _, rfl, by rw [hW5]; exact hL2, by rw [hW5]; exact hbx⟩
        case round =>
          obtain ⟨i, hi, rfl, hL6, hb6⟩ := hrel
          by_cases hlt2 : i < f6.length
          · obtain ⟨g, c, e, hg, hgT, hcell, hfr⟩ := hL6.o1.cells hlt2
            obtain rfl : A1 = some ⟨g, 0, none⟩ := by injection e
            clear e
            obtain ⟨u0, x0⟩ := hcell 0 (by decide)
            obtain ⟨u1, x1⟩ := hcell 1 (by decide)
            obtain ⟨u2, x2⟩ := hcell 2 (by decide)
            obtain ⟨u3, x3⟩ := hcell 3 (by decide)
            obtain ⟨u4, x4⟩ := hcell 4 (by decide)
            obtain ⟨u5, x5⟩ := hcell 5 (by decide)
            rw [Nat.add_zero] at x0
            obtain ⟨y0, y1, y2, y3, y4, y5⟩ := cells6 hb6
            clear hcell
            have hb1000 := fl1.out
            have pi : (0 : Int) ≤ (i : Int) := by omega
            have qi : (i : Int) < ((f6.length : Nat) : Int) := by omega
            replace hL6 := Aside0.mk hL6
            replace hb6 := Aside0.mk hb6
            go_wp2
            have h6 := hL6.out.six hg hgT (i * 6) (.int .i64 77) (.int .i64 0) (.int .i64 0) (.int .i64 0) (.int .i64 0) (.slice none 0 0)
            go_roundw
            case rel => exact ⟨i + 1, by omega, by simp, h6.1, (h6.2 _ (by omega)).trans hb6.out⟩
            case measure => simp [intOf]; omega
          · obtain rfl : i = f6.length := by omega
            obtain ⟨y0, y1, y2, y3, y4, y5⟩ := cells6 hb6
            replace hL6 := Aside0.mk hL6
            replace hb6 := Aside0.mk hb6
            go_wp2
            go_roundw
            case rel => exact ⟨1, by omega, rfl, hL6.out⟩
            case measure => simp [intOf]
      · -- the form at 1
        have y0 : wr.cell? ⟨T, 6, none⟩ = some (.int .i64 g1) := Joins.cell_of_block hL.lit 6
        have y1 : wr.cell? ⟨T, 7, none⟩ = some (.int .i64 g2) := Joins.cell_of_block hL.lit 7
        have y2 : wr.cell? ⟨T, 8, none⟩ = some (.int .i64 g3) := Joins.cell_of_block hL.lit 8
        have y3 : wr.cell? ⟨T, 9, none⟩ = some (.int .i64 g4) := Joins.cell_of_block hL.lit 9
        have y4 : wr.cell? ⟨T, 10, none⟩ = some (.int .i64 g5) := Joins.cell_of_block hL.lit 10
        have y5 : wr.cell? ⟨T, 11, none⟩ = some (.slice A2 g6.length c2) := Joins.cell_of_block hL.lit 11
        replace hL := Aside0.mk hL
        go_wp2
        clear y0 y1 y2 y3 y4 y5
        have hL2 := hL.out.alloc (.cells #[.int .i64 g1, .int .i64 g2, .int .i64 g3, .int .i64 g4, .int .i64 g5, .slice A2 g6.length c2] 24)
        have hbx : (wr.alloc (.cells #[.int .i64 g1, .int .i64 g2, .int .i64 g3, .int .i64 g4, .int .i64 g5, .slice A2 g6.length c2] 24)).heap[wr.heap.size]? = some (.cells #[.int .i64 g1, .int .i64 g2, .int .i64 g3, .int .i64 g4, .int .i64 g5, .slice A2 g6.length c2] 24) := heap_at _ _ _ rfl
        have hTw : T < wr.heap.size := (Array.getElem?_eq_some_iff.1 hL.out.lit).1
        obtain ⟨W5, hW5⟩ : ∃ W5, wr.alloc (.cells #[.int .i64 g1, .int .i64 g2, .int .i64 g3, .int .i64 g4, .int .i64 g5, .slice A2 g6.length c2] 24) = W5 := ⟨_, rfl⟩
        rw [hW5] at hL2 hbx
        go_loopw [47] (fun v w5 => ∃ i : Nat, i ≤ g6.length ∧ v = .int .i64 (i : Int) ∧ Lp w T #[.int .i64 f1, .int .i64 f2, .int .i64 f3, .int .i64 f4, .int .i64 f5, .slice A1 f6.length c1, .int .i64 g1, .int .i64 g2, .int .i64 g3, .int .i64 g4, .int .i64 g5, .slice A2 g6.length c2, .int .i64 3, .int .i64 0, .int .i64 0, .int .i64 0, .int .i64 0, .slice A3 2 c3] (.slice A1 f6.length c1) (.slice A2 g6.length c2) (.slice A3 2 c3) f6.length g6.length 2 w5 ∧ w5.heap[wr.heap.size]? = some (.cells #[.int .i64 g1, .int .i64 g2, .int .i64 g3, .int .i64 g4, .int .i64 g5, .slice A2 g6.length c2] 24 (0, 0)))
          (fun v _ => g6.length - (intOf v).toNat)
        case atStart => exact ⟨0, Nat.zero_le _, rfl, by rw [hW5]; exact hL2, by rw [hW5]; exact hbx⟩
        case round =>
          obtain ⟨i, hi, rfl, hL6, hb6⟩ := hrel
          by_cases hlt2 : i < g6.length
          · obtain ⟨g, c, e, hg, hgT, hcell, hfr⟩ := hL6.o2.cells hlt2
            obtain rfl : A2 = some ⟨g, 0, none⟩ := by injection e
            clear e
            obtain ⟨u0, x0⟩ := hcell 0 (by decide)
            obtain ⟨u1, x1⟩ := hcell 1 (by decide)
            obtain ⟨u2, x2⟩ := hcell 2 (by decide)
            obtain ⟨u3, x3⟩ := hcell 3 (by decide)
            obtain ⟨u4, x4⟩ := hcell 4 (by decide)
            obtain ⟨u5, x5⟩ := hcell 5 (by decide)
            rw [Nat.add_zero] at x0
            obtain ⟨y0, y1, y2, y3, y4, y5⟩ := cells6 hb6
            clear hcell
            have hb1000 := fl2.out
            have pi : (0 : Int) ≤ (i : Int) := by omega
            have qi : (i : Int) < ((g6.length : Nat) : Int) := by omega
            replace hL6 := Aside0.mk hL6
            replace hb6 := Aside0.mk hb6
            go_wp2
            have h6 := hL6.out.six hg hgT (i * 6) (.int .i64 77) (.int .i64 0) (.int .i64 0) (.int .i64 0) (.int .i64 0) (.slice none 0 0)
            go_roundw
            case rel => exact ⟨i + 1, by omega, by simp, h6.1, (h6.2 _ (by omega)).trans hb6.out⟩
            case measure => simp [intOf]; omega
          · obtain rfl : i = g6.length := by omega
            obtain ⟨y0, y1, y2, y3, y4, y5⟩ := cells6 hb6
            replace hL6 := Aside0.mk hL6
            replace hb6 := Aside0.mk hb6
            go_wp2
            go_roundw
            case rel => exact ⟨2, by omega, rfl, hL6.out⟩
            case measure => simp [intOf]
      · -- the form at 2
        have y0 : wr.cell? ⟨T, 12, none⟩ = some (.int .i64 3) := Joins.cell_of_block hL.lit 12
        have y1 : wr.cell? ⟨T, 13, none⟩ = some (.int .i64 0) := Joins.cell_of_block hL.lit 13
        have y2 : wr.cell? ⟨T, 14, none⟩ = some (.int .i64 0) := Joins.cell_of_block hL.lit 14
        have y3 : wr.cell? ⟨T, 15, none⟩ = some (.int .i64 0) := Joins.cell_of_block hL.lit 15
        have y4 : wr.cell? ⟨T, 16, none⟩ = some (.int .i64 0) := Joins.cell_of_block hL.lit 16
        have y5 : wr.cell? ⟨T, 17, none⟩ = some (.slice A3 2 c3) := Joins.cell_of_block hL.lit 17
        replace hL := Aside0.mk hL
        go_wp2
        clear y0 y1 y2 y3 y4 y5
        have hL2 := hL.out.alloc (.cells #[.int .i64 3, .int .i64 0, .int .i64 0, .int .i64 0, .int .i64 0, .slice A3 2 c3] 24)
        have hbx : (wr.alloc (.cells #[.int .i64 3, .int .i64 0, .int .i64 0, .int .i64 0, .int .i64 0, .slice A3 2 c3] 24)).heap[wr.heap.size]? = some (.cells #[.int .i64 3, .int .i64 0, .int .i64 0, .int .i64 0, .int .i64 0, .slice A3 2 c3] 24) := heap_at _ _ _ rfl
        have hTw : T < wr.heap.size := (Array.getElem?_eq_some_iff.1 hL.out.lit).1
        obtain ⟨W5, hW5⟩ : ∃ W5, wr.alloc (.cells #[.int .i64 3, .int .i64 0, .int .i64 0, .int .i64 0, .int .i64 0, .slice A3 2 c3] 24) = W5 := ⟨_, rfl⟩
        rw [hW5] at hL2 hbx
        go_loopw [47] (fun v w5 => ∃ i : Nat, i ≤ 2 ∧ v = .int .i64 (i : Int) ∧ Lp w T #[.int .i64 f1, .int .i64 f2, .int .i64 f3, .int .i64 f4, .int .i64 f5, .slice A1 f6.length c1, .int .i64 g1, .int .i64 g2, .int .i64 g3, .int .i64 g4, .int .i64 g5, .slice A2 g6.length c2, .int .i64 3, .int .i64 0, .int .i64 0, .int .i64 0, .int .i64 0, .slice A3 2 c3] (.slice A1 f6.length c1) (.slice A2 g6.length c2) (.slice A3 2 c3) f6.length g6.length 2 w5 ∧ w5.heap[wr.heap.size]? = some (.cells #[.int .i64 3, .int .i64 0, .int .i64 0, .int .i64 0, .int .i64 0, .slice A3 2 c3] 24 (0, 0)))
          (fun v _ => 2 - (intOf v).toNat)
        case atStart => exact ⟨0, Nat.zero_le _, rfl, by rw [hW5]; exact hL2, by rw [hW5]; exact hbx⟩
        case round =>
          obtain ⟨i, hi, rfl, hL6, hb6⟩ := hrel
          by_cases hlt2 : i < 2
          · obtain ⟨g, c, e, hg, hgT, hcell, hfr⟩ := hL6.o3.cells hlt2
            obtain rfl : A3 = some ⟨g, 0, none⟩ := by injection e
            clear e
            obtain ⟨u0, x0⟩ := hcell 0 (by decide)
            obtain ⟨u1, x1⟩ := hcell 1 (by decide)
            obtain ⟨u2, x2⟩ := hcell 2 (by decide)
            obtain ⟨u3, x3⟩ := hcell 3 (by decide)
            obtain ⟨u4, x4⟩ := hcell 4 (by decide)
            obtain ⟨u5, x5⟩ := hcell 5 (by decide)
            rw [Nat.add_zero] at x0
            obtain ⟨y0, y1, y2, y3, y4, y5⟩ := cells6 hb6
            clear hcell
            skip
            have pi : (0 : Int) ≤ (i : Int) := by omega
            have qi : (i : Int) < ((2 : Nat) : Int) := by omega
            replace hL6 := Aside0.mk hL6
            replace hb6 := Aside0.mk hb6
            go_wp2
            have h6 := hL6.out.six hg hgT (i * 6) (.int .i64 77) (.int .i64 0) (.int .i64 0) (.int .i64 0) (.int .i64 0) (.slice none 0 0)
            go_roundw
            case rel => exact ⟨i + 1, by omega, by simp, h6.1, (h6.2 _ (by omega)).trans hb6.out⟩
            case measure => simp [intOf]; omega
          · obtain rfl : i = 2 := by omega
            obtain ⟨y0, y1, y2, y3, y4, y5⟩ := cells6 hb6
            replace hL6 := Aside0.mk hL6
            replace hb6 := Aside0.mk hb6
            go_wp2
            go_roundw
            case rel => exact ⟨3, by omega, rfl, hL6.out⟩
            case measure => simp [intOf]
    · obtain rfl : j = 3 := by omega
      have hBw := Aside0.mk hL.bl
      clear hL hL0 hN1 hN2 hN3 hN1' hN2' hb1 hb2 hb3 hb4 hb3' hB1 hB2 hB3 hB4 hal
      cases f7 <;> cases g7
      all_goals
        go_wp2_with (first
          | (go_at_call 7; refine (shape_Ext.calls a0 a1 f1 f2 f3 f4 f5 f6 _ _ fe.out).mono ?_; rintro e w5 ⟨v5, rfl, hN5, hb5⟩; obtain ⟨A5, c5, rfl, hc5, hC5⟩ := Kd.N_reads hN5; replace hBw := Aside0.mk (hBw.out.trans (hb5.mono hBw.out.size)); replace hC5 := Aside0.mk hC5; clear hN5 hb5)
          | (go_at_call 14; refine (shape_Message.calls a1 g1 g2 g3 g4 g5 g6 _ _ fm.out).mono ?_; rintro e w6 ⟨v6, rfl, hN6, hb6⟩; obtain ⟨A6, c6, rfl, hc6, hC6⟩ := Kd.N_reads hN6; have p6 := hb6.size; rw [World.size_alloc] at p6; have k1 := (hb6.block _ (by rw [World.size_alloc]; omega)).trans (heap_at w5 (.cells #[.int .i64 f1, .int .i64 f2, .int .i64 f3, .int .i64 f4, .int .i64 f5, .slice A5 f6.length c5] 24) _ rfl); replace hC5 := Aside0.mk (Kd.C_below (Kd.C_below hC5.out ((Below.refl _ w5).alloc (Nat.le_refl _) (.cells #[.int .i64 f1, .int .i64 f2, .int .i64 f3, .int .i64 f4, .int .i64 f5, .slice A5 f6.length c5] 24))) hb6); replace hBw := Aside0.mk ((hBw.out.alloc hBw.out.size (.cells #[.int .i64 f1, .int .i64 f2, .int .i64 f3, .int .i64 f4, .int .i64 f5, .slice A5 f6.length c5] 24)).trans (hb6.mono (by have := hBw.out.size; rw [World.size_alloc]; omega))); replace hC6 := Aside0.mk hC6; replace k1 := Aside0.mk k1; replace p6 := Aside0.mk p6; clear hN6 hb6)
          | (go_at_call 8; refine (r13_Ext.calls a0 a1 f1 f2 f3 f4 f5 f6 _ _ fr.out).mono ?_; rintro e w7 ⟨v7, rfl, hN7, hb7⟩; obtain ⟨A7, c7, rfl, hc7, hF7⟩ := hN7; have hC7 := Kd.F_now hF7; have p7 := hb7.size; rw [World.size_alloc] at p7; have k2 := (hb7.block _ (by rw [World.size_alloc]; omega)).trans (heap_at w6 (.cells #[.int .i64 g1, .int .i64 g2, .int .i64 g3, .int .i64 g4, .int .i64 g5, .slice A6 g6.length c6] 24) _ rfl); have q1 := (Array.getElem?_eq_some_iff.1 k1.out).1; replace k1 := Aside0.mk ((hb7.block _ (by rw [World.size_alloc]; omega)).trans ((Below.heap_alloc _ (.cells #[.int .i64 g1, .int .i64 g2, .int .i64 g3, .int .i64 g4, .int .i64 g5, .slice A6 g6.length c6] 24) _ q1).trans k1.out)); replace hC5 := Aside0.mk (Kd.C_below (Kd.C_below hC5.out ((Below.refl _ w6).alloc (Nat.le_refl _) (.cells #[.int .i64 g1, .int .i64 g2, .int .i64 g3, .int .i64 g4, .int .i64 g5, .slice A6 g6.length c6] 24))) hb7); replace hC6 := Aside0.mk (Kd.C_below (Kd.C_below hC6.out ((Below.refl _ w6).alloc (Nat.le_refl _) (.cells #[.int .i64 g1, .int .i64 g2, .int .i64 g3, .int .i64 g4, .int .i64 g5, .slice A6 g6.length c6] 24))) hb7); replace hBw := Aside0.mk ((hBw.out.alloc hBw.out.size (.cells #[.int .i64 g1, .int .i64 g2, .int .i64 g3, .int .i64 g4, .int .i64 g5, .slice A6 g6.length c6] 24)).trans (hb7.mono (by have := hBw.out.size; rw [World.size_alloc]; omega))); replace hC7 := Aside0.mk hC7; replace k2 := Aside0.mk k2; replace p7 := Aside0.mk p7; clear hF7 hb7 q1)
          | (go_at_call 15; refine (r13_Message.calls a1 g1 g2 g3 g4 g5 g6 _ _ fd.out).mono ?_; rintro e w8 ⟨v8, rfl, hN8, hb8⟩; obtain ⟨A8, c8, rfl, hc8, hF8⟩ := hN8; have hC8 := Kd.F_now hF8; have p8 := hb8.size; rw [World.size_alloc] at p8; have k3 := (hb8.block _ (by rw [World.size_alloc]; omega)).trans (heap_at w7 (.cells #[.int .i64 f1, .int .i64 f2, .int .i64 f3, .int .i64 f4, .int .i64 f5, .slice A7 f6.length c7] 24) _ rfl); have q1 := (Array.getElem?_eq_some_iff.1 k1.out).1; have q2 := (Array.getElem?_eq_some_iff.1 k2.out).1; replace k1 := (hb8.block _ (by rw [World.size_alloc]; omega)).trans ((Below.heap_alloc _ (.cells #[.int .i64 f1, .int .i64 f2, .int .i64 f3, .int .i64 f4, .int .i64 f5, .slice A7 f6.length c7] 24) _ q1).trans k1.out); replace k2 := (hb8.block _ (by rw [World.size_alloc]; omega)).trans ((Below.heap_alloc _ (.cells #[.int .i64 f1, .int .i64 f2, .int .i64 f3, .int .i64 f4, .int .i64 f5, .slice A7 f6.length c7] 24) _ q2).trans k2.out); have stp := (Below.refl w7.heap.size w7).alloc (Nat.le_refl _) (.cells #[.int .i64 f1, .int .i64 f2, .int .i64 f3, .int .i64 f4, .int .i64 f5, .slice A7 f6.length c7] 24); have std := (Below.refl w8.heap.size w8).alloc (Nat.le_refl _) (.cells #[.int .i64 g1, .int .i64 g2, .int .i64 g3, .int .i64 g4, .int .i64 g5, .slice A8 g6.length c8] 24); replace hC5 := Aside0.mk (Kd.C_below (Kd.C_below (Kd.C_below hC5.out stp) hb8) std); replace hC6 := Aside0.mk (Kd.C_below (Kd.C_below (Kd.C_below hC6.out stp) hb8) std); replace hC7 := Aside0.mk (Kd.C_below (Kd.C_below (Kd.C_below hC7.out stp) hb8) std); replace hC8 := Aside0.mk (Kd.C_below hC8 std); replace hBw := Aside0.mk (((hBw.out.alloc hBw.out.size (.cells #[.int .i64 f1, .int .i64 f2, .int .i64 f3, .int .i64 f4, .int .i64 f5, .slice A7 f6.length c7] 24)).trans (hb8.mono (by have := hBw.out.size; rw [World.size_alloc]; omega))).alloc (by have := hBw.out.size; omega) (.cells #[.int .i64 g1, .int .i64 g2, .int .i64 g3, .int .i64 g4, .int .i64 g5, .slice A8 g6.length c8] 24)); replace k1 := std.block _ (Array.getElem?_eq_some_iff.1 k1).1 |>.trans k1; replace k2 := std.block _ (Array.getElem?_eq_some_iff.1 k2).1 |>.trans k2; replace k3 := std.block _ (Array.getElem?_eq_some_iff.1 k3).1 |>.trans k3; have k4 := heap_at w8 (.cells #[.int .i64 g1, .int .i64 g2, .int .i64 g3, .int .i64 g4, .int .i64 g5, .slice A8 g6.length c8] 24) _ rfl; obtain ⟨y0, y1, y2, y3, y4, y5⟩ := cells6 k1; obtain ⟨x0, x1, x2, x3, x4, x5⟩ := cells6 k2; obtain ⟨s0, s1, s2, s3, s4, s5⟩ := cells6 k3; obtain ⟨t0, t1, t2, t3, t4, t5⟩ := cells6 k4; replace k1 := Aside0.mk k1; replace k2 := Aside0.mk k2; replace k3 := Aside0.mk k3; replace k4 := Aside0.mk k4; clear hF8 hb8 q1 q2 stp std)
          | (go_at_call 10; (with_reducible refine (passepartoutref04_Same.calls _ f1 f2 f3 f4 f5 A5 c5 f6 f1 f2 f3 f4 f5 A7 c7 f6 true _ hC5.out hc5 hC7.out hc7 hs1.out).mono ?_); rintro e w9 ⟨rfl, hb9⟩; replace hC6 := Aside0.mk (Kd.C_below hC6.out hb9); replace hC8 := Aside0.mk (Kd.C_below hC8.out hb9); replace hBw := Aside0.mk (hBw.out.trans (hb9.mono hBw.out.size)); have k2' := (hb9.block _ (Array.getElem?_eq_some_iff.1 k2.out).1).trans k2.out; have k4' := (hb9.block _ (Array.getElem?_eq_some_iff.1 k4.out).1).trans k4.out; obtain ⟨x0, x1, x2, x3, x4, x5⟩ := cells6 k2'; obtain ⟨t0, t1, t2, t3, t4, t5⟩ := cells6 k4'; replace k2' := Aside0.mk k2'; replace k4' := Aside0.mk k4'; clear hb9)
          | (go_at_call 10; (with_reducible refine (passepartoutref04_Same.calls _ g1 g2 g3 g4 g5 A6 c6 g6 g1 g2 g3 g4 g5 A8 c8 g6 true _ hC6.out hc6 hC8.out hc8 hs2.out).mono ?_); rintro e w10 ⟨rfl, hb10⟩; replace hBw := Aside0.mk (hBw.out.trans (hb10.mono hBw.out.size)); clear hb10)
          | (go_at_call 16; refine (shape_Item.calls 3 0 0 0 0 [⟨0, 2, 0, 0, 0, []⟩, ⟨1, 2, 0, 65535, 1, []⟩] _ fi.out).mono ?_; rintro e w11 ⟨v11, rfl, hN11, hb11⟩; obtain ⟨A11, c11, rfl, hc11, hC11⟩ := Kd.N_reads hN11; replace hBw := Aside0.mk (hBw.out.trans (hb11.mono hBw.out.size)); replace hC11 := Aside0.mk hC11; clear hN11 hb11)
          | (go_at_call 17; refine (r13_Item.calls 3 0 0 0 0 [⟨0, 2, 0, 0, 0, []⟩, ⟨1, 2, 0, 65535, 1, []⟩] _ fj.out).mono ?_; rintro e w12 ⟨v12, rfl, hN12, hb12⟩; obtain ⟨A12, c12, rfl, hc12, hF12⟩ := hN12; have hC12 := Kd.F_now hF12; replace hC11 := Aside0.mk (Kd.C_below hC11.out hb12); replace hBw := Aside0.mk (hBw.out.trans (hb12.mono hBw.out.size)); replace hC12 := Aside0.mk hC12; clear hF12 hb12)
          | (go_at_call 10; (with_reducible refine (hs3c.out A11 c11 A12 c12 _ hC11.out hc11 hC12.out hc12).mono ?_); rintro e w13 ⟨rfl, hb13⟩; replace hBw := Aside0.mk (hBw.out.trans (hb13.mono hBw.out.size)); clear hb13))
      all_goals
        go_ret
        exact ⟨rfl, hBw.out⟩
end Go.Proofs.Ytjlpgndcomligaa
