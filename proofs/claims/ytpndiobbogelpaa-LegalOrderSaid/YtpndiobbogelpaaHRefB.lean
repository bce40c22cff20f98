/- The reference's functions that tell the forms of messages and extensions return what the tables of package shape tell; the numbers are ints. -/
import Derived.Test.YtpndiobbogelpaaHExt
import Derived.Test.YtpndiobbogelpaaHRefA
namespace Go.Proofs.Ytpndiobbogelpaa
open Go Go.RowKit Go.Maps Go.Proofs.Hand Go.Proofs.YtpndiobbogelpaaW.PrintWords Go.Proofs.YtpndiobbogelpaaW.PrintLast Go.Proofs.YtpndiobbogelpaaW.PrintMore
set_option maxRecDepth 100000

/-- Rows of forms that are at hand; they lead to blocks from B on. -/
def Al (W : World) (B : Nat) (L : List (Value × List Form)) : Prop := ∀ x ∈ L, Kd.V kForm 53 W 0 (fun k => B ≤ k) x.1 x.2
theorem Al.start (W : World) (B : Nat) : Al W B [(.slice none 0 0, [])] := fun x h => by
  obtain rfl := List.mem_singleton.1 h
  exact Kd.V_nil _ _ _ _ _
theorem Al.below {W W' : World} {B : Nat} {L : List (Value × List Form)} (h : Al W B L) (hb : Below W.heap.size W W') : Al W' B L := fun x hx => Kd.V_below (h x hx) hb
theorem Al.add {W : World} {B : Nat} {L : List (Value × List Form)} {v : Value} {l : List Form} (h : Al W B L) (hv : Kd.V kForm 53 W 0 (fun k => B ≤ k) v l) : Al W B ((v, l) :: L) := fun x hx => by
  rcases List.mem_cons.1 hx with e | hx
  · rw [e]; exact hv
  · exact h x hx
/-- A call that returns a form, in cells of its own. -/
def One (g : Nat) (args : Array Value) (f0 f1 f2 f3 f4 : Int) (f5 : List Form) : Prop := ∀ w, Calls Try.prog g args w fun e w' => ∃ A c, e = .returned (.agg #[.int .i64 f0, .int .i64 f1, .int .i64 f2, .int .i64 f3, .int .i64 f4, .slice A f5.length c]) ∧ Kd.V kForm 53 w' 0 (fun k => w.heap.size ≤ k) (.slice A f5.length c) f5 ∧ Below w.heap.size w w'
theorem One.al {g : Nat} {args : Array Value} {f0 f1 f2 f3 f4 : Int} {f5 : List Form} (h : One g args f0 f1 f2 f3 f4 f5) {W : World} {B : Nat} {L : List (Value × List Form)} (hL : Al W B L) (hB : B ≤ W.heap.size) :
    Calls Try.prog g args W fun e W' => ∃ A c, e = .returned (.agg #[.int .i64 f0, .int .i64 f1, .int .i64 f2, .int .i64 f3, .int .i64 f4, .slice A f5.length c]) ∧ Below W.heap.size W W' ∧ Al W' B ((.slice A f5.length c, f5) :: L) :=
  (h W).mono (by
    rintro e W' ⟨A, c, rfl, hV, hb⟩
    exact ⟨A, c, rfl, hb, (hL.below hb).add (Kd.V_mono hV (fun k hk => Nat.le_trans hB hk))⟩)
theorem n_one (a : Int) : One 31 #[.int .i64 a] 0 a 0 0 0 [] := fun w => (r13_n.calls a 0 a 0 0 0 [] w rfl).mono (by
  rintro e w' ⟨v, rfl, hR, hb⟩
  obtain ⟨A, c, rfl⟩ := Kd.R_slice hR
  exact ⟨A, c, rfl, Kd.V_mono (Kd.R_V (Kd.R_bound hR)) (fun k hk => hk.2.1), hb⟩)
theorem o_one (a b d : Int) : One 32 #[.int .i64 a, .int .i64 b, .int .i64 d] 1 a b d 1 [] := fun w => (r13_o.calls a b d 1 a b d 1 [] w rfl).mono (by
  rintro e w' ⟨v, rfl, hR, hb⟩
  obtain ⟨A, c, rfl⟩ := Kd.R_slice hR
  exact ⟨A, c, rfl, Kd.V_mono (Kd.R_V (Kd.R_bound hR)) (fun k hk => hk.2.1), hb⟩)
theorem empty_one : One 33 #[] 3 0 0 0 0 [] := fun w => (r13_empty.calls 3 0 0 0 0 [] w rfl).mono (by
  rintro e w' ⟨v, rfl, hR, hb⟩
  obtain ⟨A, c, rfl⟩ := Kd.R_slice hR
  exact ⟨A, c, rfl, Kd.V_mono (Kd.R_V (Kd.R_bound hR)) (fun k hk => hk.2.1), hb⟩)
section
variable {W : World} {B : Nat} {L : List (Value × List Form)} (hL : Al W B L) (hB : B ≤ W.heap.size)
include hL hB
theorem l_al (a b c d : Int) {f0 f1 f2 f3 f4 : Int} {v5 : Value} {f5 : List Form} (h5 : (v5, f5) ∈ L) :
    Calls Try.prog 35 #[.int .i64 a, .int .i64 b, .int .i64 c, .int .i64 d, .agg #[.int .i64 f0, .int .i64 f1, .int .i64 f2, .int .i64 f3, .int .i64 f4, v5]] W fun e W' => ∃ A q, e = .returned (.agg #[.int .i64 2, .int .i64 a, .int .i64 b, .int .i64 c, .int .i64 d, .slice A 1 q]) ∧ Below W.heap.size W W' ∧ Al W' B ((.slice A 1 q, [⟨f0, f1, f2, f3, f4, f5⟩]) :: L) := by
  have h := hL _ h5
  obtain ⟨A, q, e⟩ := Kd.V_slice h
  simp only at e h
  subst e
  refine (r13_l.calls a b c d f0 f1 f2 f3 f4 (fun k => B ≤ k) A q f5 2 a b c d [⟨f0, f1, f2, f3, f4, f5⟩] W h rfl).mono ?_
  rintro e W' ⟨v, rfl, hN, hb⟩
  obtain ⟨A, q, rfl⟩ := Kd.N_slice hN
  exact ⟨A, q, rfl, hb, (hL.below hb).add (Kd.V_mono (Kd.N_V hN) (fun k hk => hk.elim id (fun h => Nat.le_trans hB h)))⟩
theorem r2_al {f0 f1 f2 f3 f4 g0 g1 g2 g3 g4 : Int} {v5 u5 : Value} {f5 g5 : List Form} (h5 : (v5, f5) ∈ L) (k5 : (u5, g5) ∈ L) :
    Calls Try.prog 34 #[.agg #[.int .i64 f0, .int .i64 f1, .int .i64 f2, .int .i64 f3, .int .i64 f4, v5], .agg #[.int .i64 g0, .int .i64 g1, .int .i64 g2, .int .i64 g3, .int .i64 g4, u5]] W fun e W' => ∃ A q, e = .returned (.agg #[.int .i64 3, .int .i64 0, .int .i64 0, .int .i64 0, .int .i64 0, .slice A 2 q]) ∧ Below W.heap.size W W' ∧ Al W' B ((.slice A 2 q, [⟨f0, f1, f2, f3, f4, f5⟩, ⟨g0, g1, g2, g3, g4, g5⟩]) :: L) := by
  have h := hL _ h5
  have k := hL _ k5
  obtain ⟨A, q, e⟩ := Kd.V_slice h
  obtain ⟨A', q', e'⟩ := Kd.V_slice k
  simp only at e h e' k
  subst e; subst e'
  refine (r13_r2.calls f0 f1 f2 f3 f4 (fun k => B ≤ k) A q f5 g0 g1 g2 g3 g4 (fun k => B ≤ k) A' q' g5 3 0 0 0 0 [⟨f0, f1, f2, f3, f4, f5⟩, ⟨g0, g1, g2, g3, g4, g5⟩] W h k rfl).mono ?_
  rintro e W' ⟨v, rfl, hN, hb⟩
  obtain ⟨A, q, rfl⟩ := Kd.N_slice hN
  exact ⟨A, q, rfl, hb, (hL.below hb).add (Kd.V_mono (Kd.N_V hN) (fun k hk => hk.elim (fun h => h.elim id id) (fun h => Nat.le_trans hB h)))⟩
theorem r3_al {f0 f1 f2 f3 f4 g0 g1 g2 g3 g4 d0 d1 d2 d3 d4 : Int} {v5 u5 x5 : Value} {f5 g5 d5 : List Form} (h5 : (v5, f5) ∈ L) (k5 : (u5, g5) ∈ L) (j5 : (x5, d5) ∈ L) :
    Calls Try.prog 47 #[.agg #[.int .i64 f0, .int .i64 f1, .int .i64 f2, .int .i64 f3, .int .i64 f4, v5], .agg #[.int .i64 g0, .int .i64 g1, .int .i64 g2, .int .i64 g3, .int .i64 g4, u5], .agg #[.int .i64 d0, .int .i64 d1, .int .i64 d2, .int .i64 d3, .int .i64 d4, x5]] W fun e W' => ∃ A q, e = .returned (.agg #[.int .i64 3, .int .i64 0, .int .i64 0, .int .i64 0, .int .i64 0, .slice A 3 q]) ∧ Below W.heap.size W W' ∧ Al W' B ((.slice A 3 q, [⟨f0, f1, f2, f3, f4, f5⟩, ⟨g0, g1, g2, g3, g4, g5⟩, ⟨d0, d1, d2, d3, d4, d5⟩]) :: L) := by
  have h := hL _ h5
  have k := hL _ k5
  have j := hL _ j5
  obtain ⟨A, q, e⟩ := Kd.V_slice h
  obtain ⟨A', q', e'⟩ := Kd.V_slice k
  obtain ⟨A2, q2, e2⟩ := Kd.V_slice j
  simp only at e h e' k e2 j
  subst e; subst e'; subst e2
  refine (r13_r3.calls f0 f1 f2 f3 f4 (fun k => B ≤ k) A q f5 g0 g1 g2 g3 g4 (fun k => B ≤ k) A' q' g5 d0 d1 d2 d3 d4 (fun k => B ≤ k) A2 q2 d5 3 0 0 0 0 [⟨f0, f1, f2, f3, f4, f5⟩, ⟨g0, g1, g2, g3, g4, g5⟩, ⟨d0, d1, d2, d3, d4, d5⟩] W h k j rfl).mono ?_
  rintro e W' ⟨v, rfl, hN, hb⟩
  obtain ⟨A, q, rfl⟩ := Kd.N_slice hN
  exact ⟨A, q, rfl, hb, (hL.below hb).add (Kd.V_mono (Kd.N_V hN) (fun k hk => by have h2 : _ := hk; omega))⟩
end
theorem six_heap {w1 : World} {b : Nat} {y0 y1 y2 y3 y4 y5 : Value} (h : w1.heap[b]? = some (.cells #[y0, y1, y2, y3, y4, y5] 53 (0, 0))) (x0 x1 x2 x3 x4 x5 : Value) :
    ((((((w1.setCell ⟨b, 0, none⟩ x0).setCell ⟨b, 1, none⟩ x1).setCell ⟨b, 2, none⟩ x2).setCell ⟨b, 3, none⟩ x3).setCell ⟨b, 4, none⟩ x4).setCell ⟨b, 5, none⟩ x5).heap[b]? = some (.cells #[x0, x1, x2, x3, x4, x5] 53 (0, 0)) := by
  simp [World.setCell, Array.getElem?_modify, h]
theorem six_below {w1 : World} {b : Nat} (x0 x1 x2 x3 x4 x5 : Value) :
    Below b w1 ((((((w1.setCell ⟨b, 0, none⟩ x0).setCell ⟨b, 1, none⟩ x1).setCell ⟨b, 2, none⟩ x2).setCell ⟨b, 3, none⟩ x3).setCell ⟨b, 4, none⟩ x4).setCell ⟨b, 5, none⟩ x5) :=
  ((((((Below.refl _ w1).setCell (p := ⟨b, 0, none⟩) (Nat.le_refl _) _).setCell (p := ⟨b, 1, none⟩) (Nat.le_refl _) _).setCell (p := ⟨b, 2, none⟩) (Nat.le_refl _) _).setCell (p := ⟨b, 3, none⟩) (Nat.le_refl _) _).setCell (p := ⟨b, 4, none⟩) (Nat.le_refl _) _).setCell (p := ⟨b, 5, none⟩) (Nat.le_refl _) _
theorem six_V {w1 : World} {b : Nat} {v : Value} {l : List Form} (h : Kd.V kForm 53 w1 0 (fun k => b + 1 ≤ k) v l) (x0 x1 x2 x3 x4 x5 : Value) :
    Kd.V kForm 53 ((((((w1.setCell ⟨b, 0, none⟩ x0).setCell ⟨b, 1, none⟩ x1).setCell ⟨b, 2, none⟩ x2).setCell ⟨b, 3, none⟩ x3).setCell ⟨b, 4, none⟩ x4).setCell ⟨b, 5, none⟩ x5) 0 (fun k => b ≤ k) v l := by
  refine Kd.V_map h (fun A hf => Kd.F_mono (Kd.F_step hf (fun k hk hlt => ?_)) (fun k hk => by omega))
  have hne : k ≠ b := by omega
  rw [heap_set_ne _ _ _ _ (by simpa using hne), heap_set_ne _ _ _ _ (by simpa using hne), heap_set_ne _ _ _ _ (by simpa using hne), heap_set_ne _ _ _ _ (by simpa using hne), heap_set_ne _ _ _ _ (by simpa using hne), heap_set_ne _ _ _ _ (by simpa using hne)]
theorem Al.top {W : World} {B : Nat} {L : List (Value × List Form)} {v : Value} {l : List Form} (h : Al W B ((v, l) :: L)) : Kd.V kForm 53 W 0 (fun k => B ≤ k) v l := h _ (.head _)
/-- Where a walk stands: the result's cells as they were laid, the rows at hand. -/
structure St (w W : World) (L : List (Value × List Form)) : Prop where
  blk : W.heap[w.heap.size]? = some (.cells #[(.int .i64 0), (.int .i64 0), (.int .i64 0), (.int .i64 0), (.int .i64 0), (.slice none 0 0)] 53)
  al : Al W (w.heap.size + 1) L
  bl : Below (w.heap.size + 1) (w.alloc (.cells #[(.int .i64 0), (.int .i64 0), (.int .i64 0), (.int .i64 0), (.int .i64 0), (.slice none 0 0)] 53)) W
  sz : w.heap.size + 1 ≤ W.heap.size
theorem St.begin (w : World) : St w (w.alloc (.cells #[(.int .i64 0), (.int .i64 0), (.int .i64 0), (.int .i64 0), (.int .i64 0), (.slice none 0 0)] 53)) [(.slice none 0 0, [])] := ⟨heap_at w _ w.heap.size rfl, Al.start _ _, Below.refl _ _, by rw [World.size_alloc]; exact Nat.le_refl _⟩
theorem St.next {w W w1 : World} {L L' : List (Value × List Form)} (h : St w W L) (hb : Below W.heap.size W w1) (hl : Al w1 (w.heap.size + 1) L') : St w w1 L' :=
  ⟨(hb.block _ (Nat.lt_of_lt_of_le (Nat.lt_succ_self _) h.sz)).trans h.blk, hl, h.bl.trans (hb.mono h.sz), Nat.le_trans h.sz hb.size⟩
theorem St.cells {w W : World} {L : List (Value × List Form)} (h : St w W L) : W.cell? ⟨w.heap.size, 0, none⟩ = some (.int .i64 0) ∧ W.cell? ⟨w.heap.size, 1, none⟩ = some (.int .i64 0) ∧ W.cell? ⟨w.heap.size, 2, none⟩ = some (.int .i64 0) ∧ W.cell? ⟨w.heap.size, 3, none⟩ = some (.int .i64 0) ∧ W.cell? ⟨w.heap.size, 4, none⟩ = some (.int .i64 0) ∧ W.cell? ⟨w.heap.size, 5, none⟩ = some (.slice none 0 0) ∧ ∀ k, W.frozen? ⟨w.heap.size, k, none⟩ = false := by
  obtain ⟨y0, y1, y2, y3, y4, y5⟩ := cells6 h.blk
  exact ⟨y0, y1, y2, y3, y4, y5, fun k => by simp [World.frozen?, h.blk]⟩
theorem St.fin {w W : World} {L : List (Value × List Form)} (h : St w W L) : Below w.heap.size w W := ((Below.refl _ w).alloc (Nat.le_refl _) _).trans (h.bl.mono (Nat.le_succ _))
theorem V_cast {W : World} {ok : Nat → Prop} {v : Value} {l l' : List Form} {b b' : Nat} (h : Kd.V kForm 53 W b ok v l) (e : l = l') : Kd.V kForm 53 W b' ok v l' := e ▸ h

set_option maxHeartbeats 2000000 in
set_option maxRecDepth 100000 in
theorem share_one : One 30 #[] (3) (0) (0) (0) (0) [nF 2, longF] := by
  intro w
  have HS := St.begin w
  go_enter Try.func30, Try.ntmps30
  go_wp2_with (first
    | (go_at_call 31; refine ((n_one _).al HS.al HS.sz).mono ?_; rintro e w1 ⟨A1, c1, rfl, hb, hl⟩; replace HS := HS.next hb hl; obtain ⟨y0, y1, y2, y3, y4, y5, zf⟩ := HS.cells; clear hb hl)
    | (go_at_call 32; refine ((o_one _ _ _).al HS.al HS.sz).mono ?_; rintro e w1 ⟨A1, c1, rfl, hb, hl⟩; replace HS := HS.next hb hl; obtain ⟨y0, y1, y2, y3, y4, y5, zf⟩ := HS.cells; clear hb hl)
    | (go_at_call 34; refine (r2_al HS.al HS.sz (by repeat (first | exact .head _ | refine .tail _ ?_)) (by repeat (first | exact .head _ | refine .tail _ ?_))).mono ?_; rintro e w1 ⟨A1, c1, rfl, hb, hl⟩; replace HS := HS.next hb hl; obtain ⟨y0, y1, y2, y3, y4, y5, zf⟩ := HS.cells; clear hb hl))
  refine bodyPost_ret (results_cell_row rfl _ _ w.heap.size 53 _ (0, 0) _ rfl (six_heap HS.blk _ _ _ _ _ _) Try.underlying53 rfl (by kernel_rfl)) rfl ?_
  exact ⟨_, _, rfl, six_V HS.al.top _ _ _ _ _ _, HS.fin.trans (six_below _ _ _ _ _ _)⟩
set_option maxHeartbeats 2000000 in
set_option maxRecDepth 100000 in
theorem groups_one : One 48 #[] (2) (2) (2) (65535) (2) [nF 2] := by
  intro w
  have HS := St.begin w
  go_enter Try.func48, Try.ntmps48
  go_wp2_with (first
    | (go_at_call 31; refine ((n_one _).al HS.al HS.sz).mono ?_; rintro e w1 ⟨A1, c1, rfl, hb, hl⟩; replace HS := HS.next hb hl; obtain ⟨y0, y1, y2, y3, y4, y5, zf⟩ := HS.cells; clear hb hl)
    | (go_at_call 35; refine (l_al HS.al HS.sz _ _ _ _ (by repeat (first | exact .head _ | refine .tail _ ?_))).mono ?_; rintro e w1 ⟨A1, c1, rfl, hb, hl⟩; replace HS := HS.next hb hl; obtain ⟨y0, y1, y2, y3, y4, y5, zf⟩ := HS.cells; clear hb hl))
  refine bodyPost_ret (results_cell_row rfl _ _ w.heap.size 53 _ (0, 0) _ rfl (six_heap HS.blk _ _ _ _ _ _) Try.underlying53 rfl (by kernel_rfl)) rfl ?_
  exact ⟨_, _, rfl, six_V HS.al.top _ _ _ _ _ _, HS.fin.trans (six_below _ _ _ _ _ _)⟩
set_option maxHeartbeats 2000000 in
set_option maxRecDepth 100000 in
theorem schemes_one : One 49 #[] (2) (2) (2) (65534) (2) [nF 2] := by
  intro w
  have HS := St.begin w
  go_enter Try.func49, Try.ntmps49
  go_wp2_with (first
    | (go_at_call 31; refine ((n_one _).al HS.al HS.sz).mono ?_; rintro e w1 ⟨A1, c1, rfl, hb, hl⟩; replace HS := HS.next hb hl; obtain ⟨y0, y1, y2, y3, y4, y5, zf⟩ := HS.cells; clear hb hl)
    | (go_at_call 35; refine (l_al HS.al HS.sz _ _ _ _ (by repeat (first | exact .head _ | refine .tail _ ?_))).mono ?_; rintro e w1 ⟨A1, c1, rfl, hb, hl⟩; replace HS := HS.next hb hl; obtain ⟨y0, y1, y2, y3, y4, y5, zf⟩ := HS.cells; clear hb hl))
  refine bodyPost_ret (results_cell_row rfl _ _ w.heap.size 53 _ (0, 0) _ rfl (six_heap HS.blk _ _ _ _ _ _) Try.underlying53 rfl (by kernel_rfl)) rfl ?_
  exact ⟨_, _, rfl, six_V HS.al.top _ _ _ _ _ _, HS.fin.trans (six_below _ _ _ _ _ _)⟩
/-- What the reference's functions hand back: a form, and whether there is one. -/
def RefPost (o : Option Form) (w : World) (e : Ending) (w' : World) : Prop := ∃ v5, e = .returned (.tuple #[.agg #[.int .i64 (o.getD zForm).f0, .int .i64 (o.getD zForm).f1, .int .i64 (o.getD zForm).f2, .int .i64 (o.getD zForm).f3, .int .i64 (o.getD zForm).f4, v5], .bool o.isSome]) ∧ Kd.V kForm 53 w' 0 (fun k => w.heap.size ≤ k) v5 (o.getD zForm).f5 ∧ Below w.heap.size w w'
theorem refpost_of {o : Option Form} {w w' : World} {e : Ending} {v5 : Value} (h2 : Kd.V kForm 53 w' 0 (fun k => w.heap.size ≤ k) v5 (o.getD zForm).f5) (h1 : e = .returned (.tuple #[.agg #[.int .i64 (o.getD zForm).f0, .int .i64 (o.getD zForm).f1, .int .i64 (o.getD zForm).f2, .int .i64 (o.getD zForm).f3, .int .i64 (o.getD zForm).f4, v5], .bool o.isSome])) (h3 : Below w.heap.size w w') : RefPost o w e w' := ⟨v5, h1, h2, h3⟩
theorem ext_none {x : Int × Int} (h : x ∉ extTab.map (·.1)) : look keysSpot extTab x = none := by
  cases e : look keysSpot extTab x with
  | none => rfl
  | some f => exact absurd ((look_some_iff keysSpot extTab x).1 (by rw [e]; rfl)) h
set_option maxHeartbeats 2000000 in
set_option maxRecDepth 100000 in
theorem hello_0 (w : World) : Calls Try.prog 29 #[.int .i64 0] w (RefPost (look keysSpot extTab (1, 0)) w) := by
  have HS := St.begin w
  go_enter Try.func29, Try.ntmps29
  go_wp2_with (first
    | (go_at_call 31; refine ((n_one _).al HS.al HS.sz).mono ?_; rintro e w1 ⟨A1, c1, rfl, hb, hl⟩; replace HS := HS.next hb hl; obtain ⟨y0, y1, y2, y3, y4, y5, zf⟩ := HS.cells; clear hb hl)
    | (go_at_call 32; refine ((o_one _ _ _).al HS.al HS.sz).mono ?_; rintro e w1 ⟨A1, c1, rfl, hb, hl⟩; replace HS := HS.next hb hl; obtain ⟨y0, y1, y2, y3, y4, y5, zf⟩ := HS.cells; clear hb hl)
    | (go_at_call 34; refine (r2_al HS.al HS.sz (by repeat (first | exact .head _ | refine .tail _ ?_)) (by repeat (first | exact .head _ | refine .tail _ ?_))).mono ?_; rintro e w1 ⟨A1, c1, rfl, hb, hl⟩; replace HS := HS.next hb hl; obtain ⟨y0, y1, y2, y3, y4, y5, zf⟩ := HS.cells; clear hb hl)
    | (go_at_call 35; refine (l_al HS.al HS.sz _ _ _ _ (by repeat (first | exact .head _ | refine .tail _ ?_))).mono ?_; rintro e w1 ⟨A1, c1, rfl, hb, hl⟩; replace HS := HS.next hb hl; obtain ⟨y0, y1, y2, y3, y4, y5, zf⟩ := HS.cells; clear hb hl))
  refine bodyPost_ret (results_ct rfl _ _ w.heap.size 53 _ (0, 0) _ rfl (six_heap HS.blk _ _ _ _ _ _) Try.underlying53 rfl (by kernel_rfl)) rfl ?_
  exact refpost_of (V_cast (six_V HS.al.top _ _ _ _ _ _) (by kernel_rfl)) (by kernel_rfl) (HS.fin.trans (six_below _ _ _ _ _ _))
set_option maxHeartbeats 2000000 in
set_option maxRecDepth 100000 in
theorem hello_1 (w : World) : Calls Try.prog 29 #[.int .i64 1] w (RefPost (look keysSpot extTab (1, 1)) w) := by
  have HS := St.begin w
  go_enter Try.func29, Try.ntmps29
  go_wp2_with (first
    | (go_at_call 31; refine ((n_one _).al HS.al HS.sz).mono ?_; rintro e w1 ⟨A1, c1, rfl, hb, hl⟩; replace HS := HS.next hb hl; obtain ⟨y0, y1, y2, y3, y4, y5, zf⟩ := HS.cells; clear hb hl))
  refine bodyPost_ret (results_ct rfl _ _ w.heap.size 53 _ (0, 0) _ rfl (six_heap HS.blk _ _ _ _ _ _) Try.underlying53 rfl (by kernel_rfl)) rfl ?_
  exact refpost_of (V_cast (six_V HS.al.top _ _ _ _ _ _) (by kernel_rfl)) (by kernel_rfl) (HS.fin.trans (six_below _ _ _ _ _ _))
set_option maxHeartbeats 2000000 in
set_option maxRecDepth 100000 in
theorem hello_15 (w : World) : Calls Try.prog 29 #[.int .i64 15] w (RefPost (look keysSpot extTab (1, 15)) w) := by
  have HS := St.begin w
  go_enter Try.func29, Try.ntmps29
  go_wp2_with (first
    | (go_at_call 31; refine ((n_one _).al HS.al HS.sz).mono ?_; rintro e w1 ⟨A1, c1, rfl, hb, hl⟩; replace HS := HS.next hb hl; obtain ⟨y0, y1, y2, y3, y4, y5, zf⟩ := HS.cells; clear hb hl))
  refine bodyPost_ret (results_ct rfl _ _ w.heap.size 53 _ (0, 0) _ rfl (six_heap HS.blk _ _ _ _ _ _) Try.underlying53 rfl (by kernel_rfl)) rfl ?_
  exact refpost_of (V_cast (six_V HS.al.top _ _ _ _ _ _) (by kernel_rfl)) (by kernel_rfl) (HS.fin.trans (six_below _ _ _ _ _ _))
set_option maxHeartbeats 2000000 in
set_option maxRecDepth 100000 in
theorem hello_5 (w : World) : Calls Try.prog 29 #[.int .i64 5] w (RefPost (look keysSpot extTab (1, 5)) w) := by
  have HS := St.begin w
  go_enter Try.func29, Try.ntmps29
  go_wp2_with (first
    | (go_at_call 31; refine ((n_one _).al HS.al HS.sz).mono ?_; rintro e w1 ⟨A1, c1, rfl, hb, hl⟩; replace HS := HS.next hb hl; obtain ⟨y0, y1, y2, y3, y4, y5, zf⟩ := HS.cells; clear hb hl)
    | (go_at_call 32; refine ((o_one _ _ _).al HS.al HS.sz).mono ?_; rintro e w1 ⟨A1, c1, rfl, hb, hl⟩; replace HS := HS.next hb hl; obtain ⟨y0, y1, y2, y3, y4, y5, zf⟩ := HS.cells; clear hb hl)
    | (go_at_call 35; refine (l_al HS.al HS.sz _ _ _ _ (by repeat (first | exact .head _ | refine .tail _ ?_))).mono ?_; rintro e w1 ⟨A1, c1, rfl, hb, hl⟩; replace HS := HS.next hb hl; obtain ⟨y0, y1, y2, y3, y4, y5, zf⟩ := HS.cells; clear hb hl)
    | (go_at_call 47; refine (r3_al HS.al HS.sz (by repeat (first | exact .head _ | refine .tail _ ?_)) (by repeat (first | exact .head _ | refine .tail _ ?_)) (by repeat (first | exact .head _ | refine .tail _ ?_))).mono ?_; rintro e w1 ⟨A1, c1, rfl, hb, hl⟩; replace HS := HS.next hb hl; obtain ⟨y0, y1, y2, y3, y4, y5, zf⟩ := HS.cells; clear hb hl))
  refine bodyPost_ret (results_ct rfl _ _ w.heap.size 53 _ (0, 0) _ rfl (six_heap HS.blk _ _ _ _ _ _) Try.underlying53 rfl (by kernel_rfl)) rfl ?_
  exact refpost_of (V_cast (six_V HS.al.top _ _ _ _ _ _) (by kernel_rfl)) (by kernel_rfl) (HS.fin.trans (six_below _ _ _ _ _ _))
set_option maxHeartbeats 2000000 in
set_option maxRecDepth 100000 in
theorem hello_10 (w : World) : Calls Try.prog 29 #[.int .i64 10] w (RefPost (look keysSpot extTab (1, 10)) w) := by
  have HS := St.begin w
  go_enter Try.func29, Try.ntmps29
  go_wp2_with (first
    | (go_at_call 48; refine (groups_one.al HS.al HS.sz).mono ?_; rintro e w1 ⟨A1, c1, rfl, hb, hl⟩; replace HS := HS.next hb hl; obtain ⟨y0, y1, y2, y3, y4, y5, zf⟩ := HS.cells; clear hb hl))
  refine bodyPost_ret (results_ct rfl _ _ w.heap.size 53 _ (0, 0) _ rfl (six_heap HS.blk _ _ _ _ _ _) Try.underlying53 rfl (by kernel_rfl)) rfl ?_
  exact refpost_of (V_cast (six_V HS.al.top _ _ _ _ _ _) (by kernel_rfl)) (by kernel_rfl) (HS.fin.trans (six_below _ _ _ _ _ _))
set_option maxHeartbeats 2000000 in
set_option maxRecDepth 100000 in
theorem hello_13 (w : World) : Calls Try.prog 29 #[.int .i64 13] w (RefPost (look keysSpot extTab (1, 13)) w) := by
  have HS := St.begin w
  go_enter Try.func29, Try.ntmps29
  go_wp2_with (first
    | (go_at_call 49; refine (schemes_one.al HS.al HS.sz).mono ?_; rintro e w1 ⟨A1, c1, rfl, hb, hl⟩; replace HS := HS.next hb hl; obtain ⟨y0, y1, y2, y3, y4, y5, zf⟩ := HS.cells; clear hb hl))
  refine bodyPost_ret (results_ct rfl _ _ w.heap.size 53 _ (0, 0) _ rfl (six_heap HS.blk _ _ _ _ _ _) Try.underlying53 rfl (by kernel_rfl)) rfl ?_
  exact refpost_of (V_cast (six_V HS.al.top _ _ _ _ _ _) (by kernel_rfl)) (by kernel_rfl) (HS.fin.trans (six_below _ _ _ _ _ _))
set_option maxHeartbeats 2000000 in
set_option maxRecDepth 100000 in
theorem hello_50 (w : World) : Calls Try.prog 29 #[.int .i64 50] w (RefPost (look keysSpot extTab (1, 50)) w) := by
  have HS := St.begin w
  go_enter Try.func29, Try.ntmps29
  go_wp2_with (first
    | (go_at_call 49; refine (schemes_one.al HS.al HS.sz).mono ?_; rintro e w1 ⟨A1, c1, rfl, hb, hl⟩; replace HS := HS.next hb hl; obtain ⟨y0, y1, y2, y3, y4, y5, zf⟩ := HS.cells; clear hb hl))
  refine bodyPost_ret (results_ct rfl _ _ w.heap.size 53 _ (0, 0) _ rfl (six_heap HS.blk _ _ _ _ _ _) Try.underlying53 rfl (by kernel_rfl)) rfl ?_
  exact refpost_of (V_cast (six_V HS.al.top _ _ _ _ _ _) (by kernel_rfl)) (by kernel_rfl) (HS.fin.trans (six_below _ _ _ _ _ _))
set_option maxHeartbeats 2000000 in
set_option maxRecDepth 100000 in
theorem hello_14 (w : World) : Calls Try.prog 29 #[.int .i64 14] w (RefPost (look keysSpot extTab (1, 14)) w) := by
  have HS := St.begin w
  go_enter Try.func29, Try.ntmps29
  go_wp2_with (first
    | (go_at_call 48; refine (groups_one.al HS.al HS.sz).mono ?_; rintro e w1 ⟨A1, c1, rfl, hb, hl⟩; replace HS := HS.next hb hl; obtain ⟨y0, y1, y2, y3, y4, y5, zf⟩ := HS.cells; clear hb hl)
    | (go_at_call 32; refine ((o_one _ _ _).al HS.al HS.sz).mono ?_; rintro e w1 ⟨A1, c1, rfl, hb, hl⟩; replace HS := HS.next hb hl; obtain ⟨y0, y1, y2, y3, y4, y5, zf⟩ := HS.cells; clear hb hl)
    | (go_at_call 34; refine (r2_al HS.al HS.sz (by repeat (first | exact .head _ | refine .tail _ ?_)) (by repeat (first | exact .head _ | refine .tail _ ?_))).mono ?_; rintro e w1 ⟨A1, c1, rfl, hb, hl⟩; replace HS := HS.next hb hl; obtain ⟨y0, y1, y2, y3, y4, y5, zf⟩ := HS.cells; clear hb hl))
  refine bodyPost_ret (results_ct rfl _ _ w.heap.size 53 _ (0, 0) _ rfl (six_heap HS.blk _ _ _ _ _ _) Try.underlying53 rfl (by kernel_rfl)) rfl ?_
  exact refpost_of (V_cast (six_V HS.al.top _ _ _ _ _ _) (by kernel_rfl)) (by kernel_rfl) (HS.fin.trans (six_below _ _ _ _ _ _))
set_option maxHeartbeats 2000000 in
set_option maxRecDepth 100000 in
theorem hello_16 (w : World) : Calls Try.prog 29 #[.int .i64 16] w (RefPost (look keysSpot extTab (1, 16)) w) := by
  have HS := St.begin w
  go_enter Try.func29, Try.ntmps29
  go_wp2_with (first
    | (go_at_call 32; refine ((o_one _ _ _).al HS.al HS.sz).mono ?_; rintro e w1 ⟨A1, c1, rfl, hb, hl⟩; replace HS := HS.next hb hl; obtain ⟨y0, y1, y2, y3, y4, y5, zf⟩ := HS.cells; clear hb hl)
    | (go_at_call 35; refine (l_al HS.al HS.sz _ _ _ _ (by repeat (first | exact .head _ | refine .tail _ ?_))).mono ?_; rintro e w1 ⟨A1, c1, rfl, hb, hl⟩; replace HS := HS.next hb hl; obtain ⟨y0, y1, y2, y3, y4, y5, zf⟩ := HS.cells; clear hb hl))
  refine bodyPost_ret (results_ct rfl _ _ w.heap.size 53 _ (0, 0) _ rfl (six_heap HS.blk _ _ _ _ _ _) Try.underlying53 rfl (by kernel_rfl)) rfl ?_
  exact refpost_of (V_cast (six_V HS.al.top _ _ _ _ _ _) (by kernel_rfl)) (by kernel_rfl) (HS.fin.trans (six_below _ _ _ _ _ _))
set_option maxHeartbeats 2000000 in
set_option maxRecDepth 100000 in
theorem hello_18 (w : World) : Calls Try.prog 29 #[.int .i64 18] w (RefPost (look keysSpot extTab (1, 18)) w) := by
  have HS := St.begin w
  go_enter Try.func29, Try.ntmps29
  go_wp2_with (first
    | (go_at_call 33; refine (empty_one.al HS.al HS.sz).mono ?_; rintro e w1 ⟨A1, c1, rfl, hb, hl⟩; replace HS := HS.next hb hl; obtain ⟨y0, y1, y2, y3, y4, y5, zf⟩ := HS.cells; clear hb hl))
  refine bodyPost_ret (results_ct rfl _ _ w.heap.size 53 _ (0, 0) _ rfl (six_heap HS.blk _ _ _ _ _ _) Try.underlying53 rfl (by kernel_rfl)) rfl ?_
  exact refpost_of (V_cast (six_V HS.al.top _ _ _ _ _ _) (by kernel_rfl)) (by kernel_rfl) (HS.fin.trans (six_below _ _ _ _ _ _))
set_option maxHeartbeats 2000000 in
set_option maxRecDepth 100000 in
theorem hello_42 (w : World) : Calls Try.prog 29 #[.int .i64 42] w (RefPost (look keysSpot extTab (1, 42)) w) := by
  have HS := St.begin w
  go_enter Try.func29, Try.ntmps29
  go_wp2_with (first
    | (go_at_call 33; refine (empty_one.al HS.al HS.sz).mono ?_; rintro e w1 ⟨A1, c1, rfl, hb, hl⟩; replace HS := HS.next hb hl; obtain ⟨y0, y1, y2, y3, y4, y5, zf⟩ := HS.cells; clear hb hl))
  refine bodyPost_ret (results_ct rfl _ _ w.heap.size 53 _ (0, 0) _ rfl (six_heap HS.blk _ _ _ _ _ _) Try.underlying53 rfl (by kernel_rfl)) rfl ?_
  exact refpost_of (V_cast (six_V HS.al.top _ _ _ _ _ _) (by kernel_rfl)) (by kernel_rfl) (HS.fin.trans (six_below _ _ _ _ _ _))
set_option maxHeartbeats 2000000 in
set_option maxRecDepth 100000 in
theorem hello_49 (w : World) : Calls Try.prog 29 #[.int .i64 49] w (RefPost (look keysSpot extTab (1, 49)) w) := by
  have HS := St.begin w
  go_enter Try.func29, Try.ntmps29
  go_wp2_with (first
    | (go_at_call 33; refine (empty_one.al HS.al HS.sz).mono ?_; rintro e w1 ⟨A1, c1, rfl, hb, hl⟩; replace HS := HS.next hb hl; obtain ⟨y0, y1, y2, y3, y4, y5, zf⟩ := HS.cells; clear hb hl))
  refine bodyPost_ret (results_ct rfl _ _ w.heap.size 53 _ (0, 0) _ rfl (six_heap HS.blk _ _ _ _ _ _) Try.underlying53 rfl (by kernel_rfl)) rfl ?_
  exact refpost_of (V_cast (six_V HS.al.top _ _ _ _ _ _) (by kernel_rfl)) (by kernel_rfl) (HS.fin.trans (six_below _ _ _ _ _ _))
set_option maxHeartbeats 2000000 in
set_option maxRecDepth 100000 in
theorem hello_19 (w : World) : Calls Try.prog 29 #[.int .i64 19] w (RefPost (look keysSpot extTab (1, 19)) w) := by
  have HS := St.begin w
  go_enter Try.func29, Try.ntmps29
  go_wp2_with (first
    | (go_at_call 31; refine ((n_one _).al HS.al HS.sz).mono ?_; rintro e w1 ⟨A1, c1, rfl, hb, hl⟩; replace HS := HS.next hb hl; obtain ⟨y0, y1, y2, y3, y4, y5, zf⟩ := HS.cells; clear hb hl)
    | (go_at_call 35; refine (l_al HS.al HS.sz _ _ _ _ (by repeat (first | exact .head _ | refine .tail _ ?_))).mono ?_; rintro e w1 ⟨A1, c1, rfl, hb, hl⟩; replace HS := HS.next hb hl; obtain ⟨y0, y1, y2, y3, y4, y5, zf⟩ := HS.cells; clear hb hl))
  refine bodyPost_ret (results_ct rfl _ _ w.heap.size 53 _ (0, 0) _ rfl (six_heap HS.blk _ _ _ _ _ _) Try.underlying53 rfl (by kernel_rfl)) rfl ?_
  exact refpost_of (V_cast (six_V HS.al.top _ _ _ _ _ _) (by kernel_rfl)) (by kernel_rfl) (HS.fin.trans (six_below _ _ _ _ _ _))
set_option maxHeartbeats 2000000 in
set_option maxRecDepth 100000 in
theorem hello_20 (w : World) : Calls Try.prog 29 #[.int .i64 20] w (RefPost (look keysSpot extTab (1, 20)) w) := by
  have HS := St.begin w
  go_enter Try.func29, Try.ntmps29
  go_wp2_with (first
    | (go_at_call 31; refine ((n_one _).al HS.al HS.sz).mono ?_; rintro e w1 ⟨A1, c1, rfl, hb, hl⟩; replace HS := HS.next hb hl; obtain ⟨y0, y1, y2, y3, y4, y5, zf⟩ := HS.cells; clear hb hl)
    | (go_at_call 35; refine (l_al HS.al HS.sz _ _ _ _ (by repeat (first | exact .head _ | refine .tail _ ?_))).mono ?_; rintro e w1 ⟨A1, c1, rfl, hb, hl⟩; replace HS := HS.next hb hl; obtain ⟨y0, y1, y2, y3, y4, y5, zf⟩ := HS.cells; clear hb hl))
  refine bodyPost_ret (results_ct rfl _ _ w.heap.size 53 _ (0, 0) _ rfl (six_heap HS.blk _ _ _ _ _ _) Try.underlying53 rfl (by kernel_rfl)) rfl ?_
  exact refpost_of (V_cast (six_V HS.al.top _ _ _ _ _ _) (by kernel_rfl)) (by kernel_rfl) (HS.fin.trans (six_below _ _ _ _ _ _))
set_option maxHeartbeats 2000000 in
set_option maxRecDepth 100000 in
theorem hello_45 (w : World) : Calls Try.prog 29 #[.int .i64 45] w (RefPost (look keysSpot extTab (1, 45)) w) := by
  have HS := St.begin w
  go_enter Try.func29, Try.ntmps29
  go_wp2_with (first
    | (go_at_call 31; refine ((n_one _).al HS.al HS.sz).mono ?_; rintro e w1 ⟨A1, c1, rfl, hb, hl⟩; replace HS := HS.next hb hl; obtain ⟨y0, y1, y2, y3, y4, y5, zf⟩ := HS.cells; clear hb hl)
    | (go_at_call 35; refine (l_al HS.al HS.sz _ _ _ _ (by repeat (first | exact .head _ | refine .tail _ ?_))).mono ?_; rintro e w1 ⟨A1, c1, rfl, hb, hl⟩; replace HS := HS.next hb hl; obtain ⟨y0, y1, y2, y3, y4, y5, zf⟩ := HS.cells; clear hb hl))
  refine bodyPost_ret (results_ct rfl _ _ w.heap.size 53 _ (0, 0) _ rfl (six_heap HS.blk _ _ _ _ _ _) Try.underlying53 rfl (by kernel_rfl)) rfl ?_
  exact refpost_of (V_cast (six_V HS.al.top _ _ _ _ _ _) (by kernel_rfl)) (by kernel_rfl) (HS.fin.trans (six_below _ _ _ _ _ _))
set_option maxHeartbeats 2000000 in
set_option maxRecDepth 100000 in
theorem hello_21 (w : World) : Calls Try.prog 29 #[.int .i64 21] w (RefPost (look keysSpot extTab (1, 21)) w) := by
  go_enter Try.func29, Try.ntmps29
  go_wp2
  refine bodyPost_ret (results_ct rfl _ _ w.heap.size 53 _ (0, 0) _ rfl (heap_at w _ _ rfl) Try.underlying53 rfl (by kernel_rfl)) rfl ?_
  exact refpost_of (V_cast (l := []) (b := 0) (Kd.V_nil _ _ _ _ _) (by kernel_rfl)) (by kernel_rfl) ((Below.refl _ w).alloc (Nat.le_refl _) _)
set_option maxHeartbeats 2000000 in
set_option maxRecDepth 100000 in
theorem hello_41 (w : World) : Calls Try.prog 29 #[.int .i64 41] w (RefPost (look keysSpot extTab (1, 41)) w) := by
  have HS := St.begin w
  go_enter Try.func29, Try.ntmps29
  go_wp2_with (first
    | (go_at_call 32; refine ((o_one _ _ _).al HS.al HS.sz).mono ?_; rintro e w1 ⟨A1, c1, rfl, hb, hl⟩; replace HS := HS.next hb hl; obtain ⟨y0, y1, y2, y3, y4, y5, zf⟩ := HS.cells; clear hb hl)
    | (go_at_call 31; refine ((n_one _).al HS.al HS.sz).mono ?_; rintro e w1 ⟨A1, c1, rfl, hb, hl⟩; replace HS := HS.next hb hl; obtain ⟨y0, y1, y2, y3, y4, y5, zf⟩ := HS.cells; clear hb hl)
    | (go_at_call 34; refine (r2_al HS.al HS.sz (by repeat (first | exact .head _ | refine .tail _ ?_)) (by repeat (first | exact .head _ | refine .tail _ ?_))).mono ?_; rintro e w1 ⟨A1, c1, rfl, hb, hl⟩; replace HS := HS.next hb hl; obtain ⟨y0, y1, y2, y3, y4, y5, zf⟩ := HS.cells; clear hb hl)
    | (go_at_call 35; refine (l_al HS.al HS.sz _ _ _ _ (by repeat (first | exact .head _ | refine .tail _ ?_))).mono ?_; rintro e w1 ⟨A1, c1, rfl, hb, hl⟩; replace HS := HS.next hb hl; obtain ⟨y0, y1, y2, y3, y4, y5, zf⟩ := HS.cells; clear hb hl))
  refine bodyPost_ret (results_ct rfl _ _ w.heap.size 53 _ (0, 0) _ rfl (six_heap HS.blk _ _ _ _ _ _) Try.underlying53 rfl (by kernel_rfl)) rfl ?_
  exact refpost_of (V_cast (six_V HS.al.top _ _ _ _ _ _) (by kernel_rfl)) (by kernel_rfl) (HS.fin.trans (six_below _ _ _ _ _ _))
set_option maxHeartbeats 2000000 in
set_option maxRecDepth 100000 in
theorem hello_43 (w : World) : Calls Try.prog 29 #[.int .i64 43] w (RefPost (look keysSpot extTab (1, 43)) w) := by
  have HS := St.begin w
  go_enter Try.func29, Try.ntmps29
  go_wp2_with (first
    | (go_at_call 31; refine ((n_one _).al HS.al HS.sz).mono ?_; rintro e w1 ⟨A1, c1, rfl, hb, hl⟩; replace HS := HS.next hb hl; obtain ⟨y0, y1, y2, y3, y4, y5, zf⟩ := HS.cells; clear hb hl)
    | (go_at_call 35; refine (l_al HS.al HS.sz _ _ _ _ (by repeat (first | exact .head _ | refine .tail _ ?_))).mono ?_; rintro e w1 ⟨A1, c1, rfl, hb, hl⟩; replace HS := HS.next hb hl; obtain ⟨y0, y1, y2, y3, y4, y5, zf⟩ := HS.cells; clear hb hl))
  refine bodyPost_ret (results_ct rfl _ _ w.heap.size 53 _ (0, 0) _ rfl (six_heap HS.blk _ _ _ _ _ _) Try.underlying53 rfl (by kernel_rfl)) rfl ?_
  exact refpost_of (V_cast (six_V HS.al.top _ _ _ _ _ _) (by kernel_rfl)) (by kernel_rfl) (HS.fin.trans (six_below _ _ _ _ _ _))
set_option maxHeartbeats 2000000 in
set_option maxRecDepth 100000 in
theorem hello_44 (w : World) : Calls Try.prog 29 #[.int .i64 44] w (RefPost (look keysSpot extTab (1, 44)) w) := by
  have HS := St.begin w
  go_enter Try.func29, Try.ntmps29
  go_wp2_with (first
    | (go_at_call 32; refine ((o_one _ _ _).al HS.al HS.sz).mono ?_; rintro e w1 ⟨A1, c1, rfl, hb, hl⟩; replace HS := HS.next hb hl; obtain ⟨y0, y1, y2, y3, y4, y5, zf⟩ := HS.cells; clear hb hl))
  refine bodyPost_ret (results_ct rfl _ _ w.heap.size 53 _ (0, 0) _ rfl (six_heap HS.blk _ _ _ _ _ _) Try.underlying53 rfl (by kernel_rfl)) rfl ?_
  exact refpost_of (V_cast (six_V HS.al.top _ _ _ _ _ _) (by kernel_rfl)) (by kernel_rfl) (HS.fin.trans (six_below _ _ _ _ _ _))
set_option maxHeartbeats 2000000 in
set_option maxRecDepth 100000 in
theorem hello_47 (w : World) : Calls Try.prog 29 #[.int .i64 47] w (RefPost (look keysSpot extTab (1, 47)) w) := by
  have HS := St.begin w
  go_enter Try.func29, Try.ntmps29
  go_wp2_with (first
    | (go_at_call 32; refine ((o_one _ _ _).al HS.al HS.sz).mono ?_; rintro e w1 ⟨A1, c1, rfl, hb, hl⟩; replace HS := HS.next hb hl; obtain ⟨y0, y1, y2, y3, y4, y5, zf⟩ := HS.cells; clear hb hl)
    | (go_at_call 35; refine (l_al HS.al HS.sz _ _ _ _ (by repeat (first | exact .head _ | refine .tail _ ?_))).mono ?_; rintro e w1 ⟨A1, c1, rfl, hb, hl⟩; replace HS := HS.next hb hl; obtain ⟨y0, y1, y2, y3, y4, y5, zf⟩ := HS.cells; clear hb hl))
  refine bodyPost_ret (results_ct rfl _ _ w.heap.size 53 _ (0, 0) _ rfl (six_heap HS.blk _ _ _ _ _ _) Try.underlying53 rfl (by kernel_rfl)) rfl ?_
  exact refpost_of (V_cast (six_V HS.al.top _ _ _ _ _ _) (by kernel_rfl)) (by kernel_rfl) (HS.fin.trans (six_below _ _ _ _ _ _))
set_option maxHeartbeats 2000000 in
set_option maxRecDepth 100000 in
theorem hello_51 (w : World) : Calls Try.prog 29 #[.int .i64 51] w (RefPost (look keysSpot extTab (1, 51)) w) := by
  have HS := St.begin w
  go_enter Try.func29, Try.ntmps29
  go_wp2_with (first
    | (go_at_call 30; refine (share_one.al HS.al HS.sz).mono ?_; rintro e w1 ⟨A1, c1, rfl, hb, hl⟩; replace HS := HS.next hb hl; obtain ⟨y0, y1, y2, y3, y4, y5, zf⟩ := HS.cells; clear hb hl)
    | (go_at_call 35; refine (l_al HS.al HS.sz _ _ _ _ (by repeat (first | exact .head _ | refine .tail _ ?_))).mono ?_; rintro e w1 ⟨A1, c1, rfl, hb, hl⟩; replace HS := HS.next hb hl; obtain ⟨y0, y1, y2, y3, y4, y5, zf⟩ := HS.cells; clear hb hl))
  refine bodyPost_ret (results_ct rfl _ _ w.heap.size 53 _ (0, 0) _ rfl (six_heap HS.blk _ _ _ _ _ _) Try.underlying53 rfl (by kernel_rfl)) rfl ?_
  exact refpost_of (V_cast (six_V HS.al.top _ _ _ _ _ _) (by kernel_rfl)) (by kernel_rfl) (HS.fin.trans (six_below _ _ _ _ _ _))
theorem extKeyList : extTab.map (·.1) = [(2, 51), (1, 51), (1, 49), (13, 48), (13, 47), (1, 47), (6, 44), (1, 44), (6, 51), (6, 43), (1, 43), (4, 42), (8, 42), (1, 42), (2, 43), (2, 41), (1, 41), (1, 21), (8, 20), (8, 19), (1, 45), (1, 20), (1, 19), (11, 18), (13, 18), (1, 18), (8, 16), (1, 16), (8, 14), (1, 14), (13, 50), (1, 50), (13, 13), (1, 13), (8, 10), (1, 10), (11, 5), (13, 5), (1, 5), (8, 15), (1, 15), (8, 1), (1, 1), (8, 0), (1, 0)] := by decide +kernel
set_option maxHeartbeats 2000000 in
set_option maxRecDepth 100000 in
theorem hello_none (a0 : Int) (h0 : a0 ≠ 0) (h1 : a0 ≠ 1) (h15 : a0 ≠ 15) (h5 : a0 ≠ 5) (h10 : a0 ≠ 10) (h13 : a0 ≠ 13) (h50 : a0 ≠ 50) (h14 : a0 ≠ 14) (h16 : a0 ≠ 16) (h18 : a0 ≠ 18) (h42 : a0 ≠ 42) (h49 : a0 ≠ 49) (h19 : a0 ≠ 19) (h20 : a0 ≠ 20) (h45 : a0 ≠ 45) (h21 : a0 ≠ 21) (h41 : a0 ≠ 41) (h43 : a0 ≠ 43) (h44 : a0 ≠ 44) (h47 : a0 ≠ 47) (h51 : a0 ≠ 51) (w : World) : Calls Try.prog 29 #[.int .i64 a0] w (RefPost (look keysSpot extTab (1, a0)) w) := by
  have e0 : (a0 == 0) = false := beq_eq_false_iff_ne.2 h0
  have e1 : (a0 == 1) = false := beq_eq_false_iff_ne.2 h1
  have e15 : (a0 == 15) = false := beq_eq_false_iff_ne.2 h15
  have e5 : (a0 == 5) = false := beq_eq_false_iff_ne.2 h5
  have e10 : (a0 == 10) = false := beq_eq_false_iff_ne.2 h10
  have e13 : (a0 == 13) = false := beq_eq_false_iff_ne.2 h13
  have e50 : (a0 == 50) = false := beq_eq_false_iff_ne.2 h50
  have e14 : (a0 == 14) = false := beq_eq_false_iff_ne.2 h14
  have e16 : (a0 == 16) = false := beq_eq_false_iff_ne.2 h16
  have e18 : (a0 == 18) = false := beq_eq_false_iff_ne.2 h18
  have e42 : (a0 == 42) = false := beq_eq_false_iff_ne.2 h42
  have e49 : (a0 == 49) = false := beq_eq_false_iff_ne.2 h49
  have e19 : (a0 == 19) = false := beq_eq_false_iff_ne.2 h19
  have e20 : (a0 == 20) = false := beq_eq_false_iff_ne.2 h20
  have e45 : (a0 == 45) = false := beq_eq_false_iff_ne.2 h45
  have e21 : (a0 == 21) = false := beq_eq_false_iff_ne.2 h21
  have e41 : (a0 == 41) = false := beq_eq_false_iff_ne.2 h41
  have e43 : (a0 == 43) = false := beq_eq_false_iff_ne.2 h43
  have e44 : (a0 == 44) = false := beq_eq_false_iff_ne.2 h44
  have e47 : (a0 == 47) = false := beq_eq_false_iff_ne.2 h47
  have e51 : (a0 == 51) = false := beq_eq_false_iff_ne.2 h51
  rw [ext_none (x := (1, a0)) (by rw [extKeyList]; simp [h0, h1, h15, h5, h10, h13, h50, h14, h16, h18, h42, h49, h19, h20, h45, h21, h41, h43, h44, h47, h51])]
  clear h0 h1 h15 h5 h10 h13 h50 h14 h16 h18 h42 h49 h19 h20 h45 h21 h41 h43 h44 h47 h51
  go_enter Try.func29, Try.ntmps29
  go_wp2
  refine bodyPost_ret (results_ct rfl _ _ w.heap.size 53 _ (0, 0) _ rfl (heap_at w _ _ rfl) Try.underlying53 rfl (by kernel_rfl)) rfl ?_
  exact refpost_of (V_cast (l := []) (b := 0) (Kd.V_nil _ _ _ _ _) (by kernel_rfl)) (by kernel_rfl) ((Below.refl _ w).alloc (Nat.le_refl _) _)
theorem hello_ref (a0 : Int) (w : World) : Calls Try.prog 29 #[.int .i64 a0] w (RefPost (look keysSpot extTab (1, a0)) w) := by
  by_cases h0 : a0 = 0
  · subst h0; exact hello_0 w
  by_cases h1 : a0 = 1
  · subst h1; exact hello_1 w
  by_cases h15 : a0 = 15
  · subst h15; exact hello_15 w
  by_cases h5 : a0 = 5
  · subst h5; exact hello_5 w
  by_cases h10 : a0 = 10
  · subst h10; exact hello_10 w
  by_cases h13 : a0 = 13
  · subst h13; exact hello_13 w
  by_cases h50 : a0 = 50
  · subst h50; exact hello_50 w
  by_cases h14 : a0 = 14
  · subst h14; exact hello_14 w
  by_cases h16 : a0 = 16
  · subst h16; exact hello_16 w
  by_cases h18 : a0 = 18
  · subst h18; exact hello_18 w
  by_cases h42 : a0 = 42
  · subst h42; exact hello_42 w
  by_cases h49 : a0 = 49
  · subst h49; exact hello_49 w
  by_cases h19 : a0 = 19
  · subst h19; exact hello_19 w
  by_cases h20 : a0 = 20
  · subst h20; exact hello_20 w
  by_cases h45 : a0 = 45
  · subst h45; exact hello_45 w
  by_cases h21 : a0 = 21
  · subst h21; exact hello_21 w
  by_cases h41 : a0 = 41
  · subst h41; exact hello_41 w
  by_cases h43 : a0 = 43
  · subst h43; exact hello_43 w
  by_cases h44 : a0 = 44
  · subst h44; exact hello_44 w
  by_cases h47 : a0 = 47
  · subst h47; exact hello_47 w
  by_cases h51 : a0 = 51
  · subst h51; exact hello_51 w
  exact hello_none a0 h0 h1 h15 h5 h10 h13 h50 h14 h16 h18 h42 h49 h19 h20 h45 h21 h41 h43 h44 h47 h51 w
set_option maxHeartbeats 2000000 in
set_option maxRecDepth 100000 in
theorem ref_2_51 (w : World) : Calls Try.prog 23 #[.int .i64 2, .int .i64 51] w (RefPost (look keysSpot extTab (2, 51)) w) := by
  have HS := St.begin w
  go_enter Try.func23, Try.ntmps23
  go_wp2_with (first
    | (go_at_call 30; refine (share_one.al HS.al HS.sz).mono ?_; rintro e w1 ⟨A1, c1, rfl, hb, hl⟩; replace HS := HS.next hb hl; obtain ⟨y0, y1, y2, y3, y4, y5, zf⟩ := HS.cells; clear hb hl))
  refine bodyPost_ret (results_ct rfl _ _ w.heap.size 53 _ (0, 0) _ rfl (six_heap HS.blk _ _ _ _ _ _) Try.underlying53 rfl (by kernel_rfl)) rfl ?_
  exact refpost_of (V_cast (six_V HS.al.top _ _ _ _ _ _) (by kernel_rfl)) (by kernel_rfl) (HS.fin.trans (six_below _ _ _ _ _ _))
set_option maxHeartbeats 2000000 in
set_option maxRecDepth 100000 in
theorem ref_2_41 (w : World) : Calls Try.prog 23 #[.int .i64 2, .int .i64 41] w (RefPost (look keysSpot extTab (2, 41)) w) := by
  have HS := St.begin w
  go_enter Try.func23, Try.ntmps23
  go_wp2_with (first
    | (go_at_call 31; refine ((n_one _).al HS.al HS.sz).mono ?_; rintro e w1 ⟨A1, c1, rfl, hb, hl⟩; replace HS := HS.next hb hl; obtain ⟨y0, y1, y2, y3, y4, y5, zf⟩ := HS.cells; clear hb hl))
  refine bodyPost_ret (results_ct rfl _ _ w.heap.size 53 _ (0, 0) _ rfl (six_heap HS.blk _ _ _ _ _ _) Try.underlying53 rfl (by kernel_rfl)) rfl ?_
  exact refpost_of (V_cast (six_V HS.al.top _ _ _ _ _ _) (by kernel_rfl)) (by kernel_rfl) (HS.fin.trans (six_below _ _ _ _ _ _))
set_option maxHeartbeats 2000000 in
set_option maxRecDepth 100000 in
theorem ref_2_43 (w : World) : Calls Try.prog 23 #[.int .i64 2, .int .i64 43] w (RefPost (look keysSpot extTab (2, 43)) w) := by
  have HS := St.begin w
  go_enter Try.func23, Try.ntmps23
  go_wp2_with (first
    | (go_at_call 31; refine ((n_one _).al HS.al HS.sz).mono ?_; rintro e w1 ⟨A1, c1, rfl, hb, hl⟩; replace HS := HS.next hb hl; obtain ⟨y0, y1, y2, y3, y4, y5, zf⟩ := HS.cells; clear hb hl))
  refine bodyPost_ret (results_ct rfl _ _ w.heap.size 53 _ (0, 0) _ rfl (six_heap HS.blk _ _ _ _ _ _) Try.underlying53 rfl (by kernel_rfl)) rfl ?_
  exact refpost_of (V_cast (six_V HS.al.top _ _ _ _ _ _) (by kernel_rfl)) (by kernel_rfl) (HS.fin.trans (six_below _ _ _ _ _ _))
set_option maxHeartbeats 2000000 in
set_option maxRecDepth 100000 in
theorem ref_2_none (a1 : Int) (h51 : a1 ≠ 51) (h41 : a1 ≠ 41) (h43 : a1 ≠ 43) (w : World) : Calls Try.prog 23 #[.int .i64 2, .int .i64 a1] w (RefPost (look keysSpot extTab (2, a1)) w) := by
  have e51 : (a1 == 51) = false := beq_eq_false_iff_ne.2 h51
  have e41 : (a1 == 41) = false := beq_eq_false_iff_ne.2 h41
  have e43 : (a1 == 43) = false := beq_eq_false_iff_ne.2 h43
  rw [ext_none (x := (2, a1)) (by rw [extKeyList]; simp [h51, h41, h43])]
  clear h51 h41 h43
  go_enter Try.func23, Try.ntmps23
  go_wp2
  refine bodyPost_ret (results_ct rfl _ _ w.heap.size 53 _ (0, 0) _ rfl (heap_at w _ _ rfl) Try.underlying53 rfl (by kernel_rfl)) rfl ?_
  exact refpost_of (V_cast (l := []) (b := 0) (Kd.V_nil _ _ _ _ _) (by kernel_rfl)) (by kernel_rfl) ((Below.refl _ w).alloc (Nat.le_refl _) _)
set_option maxHeartbeats 2000000 in
set_option maxRecDepth 100000 in
theorem ref_6_43 (w : World) : Calls Try.prog 23 #[.int .i64 6, .int .i64 43] w (RefPost (look keysSpot extTab (6, 43)) w) := by
  have HS := St.begin w
  go_enter Try.func23, Try.ntmps23
  go_wp2_with (first
    | (go_at_call 31; refine ((n_one _).al HS.al HS.sz).mono ?_; rintro e w1 ⟨A1, c1, rfl, hb, hl⟩; replace HS := HS.next hb hl; obtain ⟨y0, y1, y2, y3, y4, y5, zf⟩ := HS.cells; clear hb hl))
  refine bodyPost_ret (results_ct rfl _ _ w.heap.size 53 _ (0, 0) _ rfl (six_heap HS.blk _ _ _ _ _ _) Try.underlying53 rfl (by kernel_rfl)) rfl ?_
  exact refpost_of (V_cast (six_V HS.al.top _ _ _ _ _ _) (by kernel_rfl)) (by kernel_rfl) (HS.fin.trans (six_below _ _ _ _ _ _))
set_option maxHeartbeats 2000000 in
set_option maxRecDepth 100000 in
theorem ref_6_51 (w : World) : Calls Try.prog 23 #[.int .i64 6, .int .i64 51] w (RefPost (look keysSpot extTab (6, 51)) w) := by
  have HS := St.begin w
  go_enter Try.func23, Try.ntmps23
  go_wp2_with (first
    | (go_at_call 31; refine ((n_one _).al HS.al HS.sz).mono ?_; rintro e w1 ⟨A1, c1, rfl, hb, hl⟩; replace HS := HS.next hb hl; obtain ⟨y0, y1, y2, y3, y4, y5, zf⟩ := HS.cells; clear hb hl))
  refine bodyPost_ret (results_ct rfl _ _ w.heap.size 53 _ (0, 0) _ rfl (six_heap HS.blk _ _ _ _ _ _) Try.underlying53 rfl (by kernel_rfl)) rfl ?_
  exact refpost_of (V_cast (six_V HS.al.top _ _ _ _ _ _) (by kernel_rfl)) (by kernel_rfl) (HS.fin.trans (six_below _ _ _ _ _ _))
set_option maxHeartbeats 2000000 in
set_option maxRecDepth 100000 in
theorem ref_6_44 (w : World) : Calls Try.prog 23 #[.int .i64 6, .int .i64 44] w (RefPost (look keysSpot extTab (6, 44)) w) := by
  have HS := St.begin w
  go_enter Try.func23, Try.ntmps23
  go_wp2_with (first
    | (go_at_call 32; refine ((o_one _ _ _).al HS.al HS.sz).mono ?_; rintro e w1 ⟨A1, c1, rfl, hb, hl⟩; replace HS := HS.next hb hl; obtain ⟨y0, y1, y2, y3, y4, y5, zf⟩ := HS.cells; clear hb hl))
  refine bodyPost_ret (results_ct rfl _ _ w.heap.size 53 _ (0, 0) _ rfl (six_heap HS.blk _ _ _ _ _ _) Try.underlying53 rfl (by kernel_rfl)) rfl ?_
  exact refpost_of (V_cast (six_V HS.al.top _ _ _ _ _ _) (by kernel_rfl)) (by kernel_rfl) (HS.fin.trans (six_below _ _ _ _ _ _))
set_option maxHeartbeats 2000000 in
set_option maxRecDepth 100000 in
theorem ref_6_none (a1 : Int) (h43 : a1 ≠ 43) (h51 : a1 ≠ 51) (h44 : a1 ≠ 44) (w : World) : Calls Try.prog 23 #[.int .i64 6, .int .i64 a1] w (RefPost (look keysSpot extTab (6, a1)) w) := by
  have e43 : (a1 == 43) = false := beq_eq_false_iff_ne.2 h43
  have e51 : (a1 == 51) = false := beq_eq_false_iff_ne.2 h51
  have e44 : (a1 == 44) = false := beq_eq_false_iff_ne.2 h44
  rw [ext_none (x := (6, a1)) (by rw [extKeyList]; simp [h43, h51, h44])]
  clear h43 h51 h44
  go_enter Try.func23, Try.ntmps23
  go_wp2
  refine bodyPost_ret (results_ct rfl _ _ w.heap.size 53 _ (0, 0) _ rfl (heap_at w _ _ rfl) Try.underlying53 rfl (by kernel_rfl)) rfl ?_
  exact refpost_of (V_cast (l := []) (b := 0) (Kd.V_nil _ _ _ _ _) (by kernel_rfl)) (by kernel_rfl) ((Below.refl _ w).alloc (Nat.le_refl _) _)
set_option maxHeartbeats 2000000 in
set_option maxRecDepth 100000 in
theorem ref_4_42 (w : World) : Calls Try.prog 23 #[.int .i64 4, .int .i64 42] w (RefPost (look keysSpot extTab (4, 42)) w) := by
  have HS := St.begin w
  go_enter Try.func23, Try.ntmps23
  go_wp2_with (first
    | (go_at_call 31; refine ((n_one _).al HS.al HS.sz).mono ?_; rintro e w1 ⟨A1, c1, rfl, hb, hl⟩; replace HS := HS.next hb hl; obtain ⟨y0, y1, y2, y3, y4, y5, zf⟩ := HS.cells; clear hb hl))
  refine bodyPost_ret (results_ct rfl _ _ w.heap.size 53 _ (0, 0) _ rfl (six_heap HS.blk _ _ _ _ _ _) Try.underlying53 rfl (by kernel_rfl)) rfl ?_
  exact refpost_of (V_cast (six_V HS.al.top _ _ _ _ _ _) (by kernel_rfl)) (by kernel_rfl) (HS.fin.trans (six_below _ _ _ _ _ _))
set_option maxHeartbeats 2000000 in
set_option maxRecDepth 100000 in
theorem ref_4_none (a1 : Int) (h42 : a1 ≠ 42) (w : World) : Calls Try.prog 23 #[.int .i64 4, .int .i64 a1] w (RefPost (look keysSpot extTab (4, a1)) w) := by
  have e42 : (a1 == 42) = false := beq_eq_false_iff_ne.2 h42
  rw [ext_none (x := (4, a1)) (by rw [extKeyList]; simp [h42])]
  clear h42
  go_enter Try.func23, Try.ntmps23
  go_wp2
  refine bodyPost_ret (results_ct rfl _ _ w.heap.size 53 _ (0, 0) _ rfl (heap_at w _ _ rfl) Try.underlying53 rfl (by kernel_rfl)) rfl ?_
  exact refpost_of (V_cast (l := []) (b := 0) (Kd.V_nil _ _ _ _ _) (by kernel_rfl)) (by kernel_rfl) ((Below.refl _ w).alloc (Nat.le_refl _) _)
set_option maxHeartbeats 2000000 in
set_option maxRecDepth 100000 in
theorem ref_8_0 (w : World) : Calls Try.prog 23 #[.int .i64 8, .int .i64 0] w (RefPost (look keysSpot extTab (8, 0)) w) := by
  have HS := St.begin w
  go_enter Try.func23, Try.ntmps23
  go_wp2_with (first
    | (go_at_call 33; refine (empty_one.al HS.al HS.sz).mono ?_; rintro e w1 ⟨A1, c1, rfl, hb, hl⟩; replace HS := HS.next hb hl; obtain ⟨y0, y1, y2, y3, y4, y5, zf⟩ := HS.cells; clear hb hl))
  refine bodyPost_ret (results_ct rfl _ _ w.heap.size 53 _ (0, 0) _ rfl (six_heap HS.blk _ _ _ _ _ _) Try.underlying53 rfl (by kernel_rfl)) rfl ?_
  exact refpost_of (V_cast (six_V HS.al.top _ _ _ _ _ _) (by kernel_rfl)) (by kernel_rfl) (HS.fin.trans (six_below _ _ _ _ _ _))
set_option maxHeartbeats 2000000 in
set_option maxRecDepth 100000 in
theorem ref_8_42 (w : World) : Calls Try.prog 23 #[.int .i64 8, .int .i64 42] w (RefPost (look keysSpot extTab (8, 42)) w) := by
  have HS := St.begin w
  go_enter Try.func23, Try.ntmps23
  go_wp2_with (first
    | (go_at_call 33; refine (empty_one.al HS.al HS.sz).mono ?_; rintro e w1 ⟨A1, c1, rfl, hb, hl⟩; replace HS := HS.next hb hl; obtain ⟨y0, y1, y2, y3, y4, y5, zf⟩ := HS.cells; clear hb hl))
  refine bodyPost_ret (results_ct rfl _ _ w.heap.size 53 _ (0, 0) _ rfl (six_heap HS.blk _ _ _ _ _ _) Try.underlying53 rfl (by kernel_rfl)) rfl ?_
  exact refpost_of (V_cast (six_V HS.al.top _ _ _ _ _ _) (by kernel_rfl)) (by kernel_rfl) (HS.fin.trans (six_below _ _ _ _ _ _))
set_option maxHeartbeats 2000000 in
set_option maxRecDepth 100000 in
theorem ref_8_1 (w : World) : Calls Try.prog 23 #[.int .i64 8, .int .i64 1] w (RefPost (look keysSpot extTab (8, 1)) w) := by
  have HS := St.begin w
  go_enter Try.func23, Try.ntmps23
  go_wp2_with (first
    | (go_at_call 31; refine ((n_one _).al HS.al HS.sz).mono ?_; rintro e w1 ⟨A1, c1, rfl, hb, hl⟩; replace HS := HS.next hb hl; obtain ⟨y0, y1, y2, y3, y4, y5, zf⟩ := HS.cells; clear hb hl))
  refine bodyPost_ret (results_ct rfl _ _ w.heap.size 53 _ (0, 0) _ rfl (six_heap HS.blk _ _ _ _ _ _) Try.underlying53 rfl (by kernel_rfl)) rfl ?_
  exact refpost_of (V_cast (six_V HS.al.top _ _ _ _ _ _) (by kernel_rfl)) (by kernel_rfl) (HS.fin.trans (six_below _ _ _ _ _ _))
set_option maxHeartbeats 2000000 in
set_option maxRecDepth 100000 in
theorem ref_8_15 (w : World) : Calls Try.prog 23 #[.int .i64 8, .int .i64 15] w (RefPost (look keysSpot extTab (8, 15)) w) := by
  have HS := St.begin w
  go_enter Try.func23, Try.ntmps23
  go_wp2_with (first
    | (go_at_call 31; refine ((n_one _).al HS.al HS.sz).mono ?_; rintro e w1 ⟨A1, c1, rfl, hb, hl⟩; replace HS := HS.next hb hl; obtain ⟨y0, y1, y2, y3, y4, y5, zf⟩ := HS.cells; clear hb hl))
  refine bodyPost_ret (results_ct rfl _ _ w.heap.size 53 _ (0, 0) _ rfl (six_heap HS.blk _ _ _ _ _ _) Try.underlying53 rfl (by kernel_rfl)) rfl ?_
  exact refpost_of (V_cast (six_V HS.al.top _ _ _ _ _ _) (by kernel_rfl)) (by kernel_rfl) (HS.fin.trans (six_below _ _ _ _ _ _))
set_option maxHeartbeats 2000000 in
set_option maxRecDepth 100000 in
theorem ref_8_19 (w : World) : Calls Try.prog 23 #[.int .i64 8, .int .i64 19] w (RefPost (look keysSpot extTab (8, 19)) w) := by
  have HS := St.begin w
  go_enter Try.func23, Try.ntmps23
  go_wp2_with (first
    | (go_at_call 31; refine ((n_one _).al HS.al HS.sz).mono ?_; rintro e w1 ⟨A1, c1, rfl, hb, hl⟩; replace HS := HS.next hb hl; obtain ⟨y0, y1, y2, y3, y4, y5, zf⟩ := HS.cells; clear hb hl))
  refine bodyPost_ret (results_ct rfl _ _ w.heap.size 53 _ (0, 0) _ rfl (six_heap HS.blk _ _ _ _ _ _) Try.underlying53 rfl (by kernel_rfl)) rfl ?_
  exact refpost_of (V_cast (six_V HS.al.top _ _ _ _ _ _) (by kernel_rfl)) (by kernel_rfl) (HS.fin.trans (six_below _ _ _ _ _ _))
set_option maxHeartbeats 2000000 in
set_option maxRecDepth 100000 in
theorem ref_8_20 (w : World) : Calls Try.prog 23 #[.int .i64 8, .int .i64 20] w (RefPost (look keysSpot extTab (8, 20)) w) := by
  have HS := St.begin w
  go_enter Try.func23, Try.ntmps23
  go_wp2_with (first
    | (go_at_call 31; refine ((n_one _).al HS.al HS.sz).mono ?_; rintro e w1 ⟨A1, c1, rfl, hb, hl⟩; replace HS := HS.next hb hl; obtain ⟨y0, y1, y2, y3, y4, y5, zf⟩ := HS.cells; clear hb hl))
  refine bodyPost_ret (results_ct rfl _ _ w.heap.size 53 _ (0, 0) _ rfl (six_heap HS.blk _ _ _ _ _ _) Try.underlying53 rfl (by kernel_rfl)) rfl ?_
  exact refpost_of (V_cast (six_V HS.al.top _ _ _ _ _ _) (by kernel_rfl)) (by kernel_rfl) (HS.fin.trans (six_below _ _ _ _ _ _))
set_option maxHeartbeats 2000000 in
set_option maxRecDepth 100000 in
theorem ref_8_10 (w : World) : Calls Try.prog 23 #[.int .i64 8, .int .i64 10] w (RefPost (look keysSpot extTab (8, 10)) w) := by
  have HS := St.begin w
  go_enter Try.func23, Try.ntmps23
  go_wp2_with (first
    | (go_at_call 29; refine (hello_ref 10 _).mono ?_; rintro e w1 ⟨v5, rfl, hV, hb⟩; obtain ⟨A1, c1, rfl⟩ := Kd.V_slice hV; have hl := (HS.al.below hb).add (Kd.V_mono (ok' := fun k => w.heap.size + 1 ≤ k) hV (fun k hk => Nat.le_trans HS.sz hk)); clear hV; replace HS := HS.next hb hl; obtain ⟨y0, y1, y2, y3, y4, y5, zf⟩ := HS.cells; clear hb hl))
  refine bodyPost_ret (results_ct rfl _ _ w.heap.size 53 _ (0, 0) _ rfl (six_heap HS.blk _ _ _ _ _ _) Try.underlying53 rfl (by kernel_rfl)) rfl ?_
  exact refpost_of (V_cast (six_V HS.al.top _ _ _ _ _ _) (by kernel_rfl)) (by kernel_rfl) (HS.fin.trans (six_below _ _ _ _ _ _))
set_option maxHeartbeats 2000000 in
set_option maxRecDepth 100000 in
theorem ref_8_14 (w : World) : Calls Try.prog 23 #[.int .i64 8, .int .i64 14] w (RefPost (look keysSpot extTab (8, 14)) w) := by
  have HS := St.begin w
  go_enter Try.func23, Try.ntmps23
  go_wp2_with (first
    | (go_at_call 29; refine (hello_ref 14 _).mono ?_; rintro e w1 ⟨v5, rfl, hV, hb⟩; obtain ⟨A1, c1, rfl⟩ := Kd.V_slice hV; have hl := (HS.al.below hb).add (Kd.V_mono (ok' := fun k => w.heap.size + 1 ≤ k) hV (fun k hk => Nat.le_trans HS.sz hk)); clear hV; replace HS := HS.next hb hl; obtain ⟨y0, y1, y2, y3, y4, y5, zf⟩ := HS.cells; clear hb hl))
  refine bodyPost_ret (results_ct rfl _ _ w.heap.size 53 _ (0, 0) _ rfl (six_heap HS.blk _ _ _ _ _ _) Try.underlying53 rfl (by kernel_rfl)) rfl ?_
  exact refpost_of (V_cast (six_V HS.al.top _ _ _ _ _ _) (by kernel_rfl)) (by kernel_rfl) (HS.fin.trans (six_below _ _ _ _ _ _))
set_option maxHeartbeats 2000000 in
set_option maxRecDepth 100000 in
theorem ref_8_16 (w : World) : Calls Try.prog 23 #[.int .i64 8, .int .i64 16] w (RefPost (look keysSpot extTab (8, 16)) w) := by
  have HS := St.begin w
  go_enter Try.func23, Try.ntmps23
  go_wp2_with (first
    | (go_at_call 29; refine (hello_ref 16 _).mono ?_; rintro e w1 ⟨v5, rfl, hV, hb⟩; obtain ⟨A1, c1, rfl⟩ := Kd.V_slice hV; have hl := (HS.al.below hb).add (Kd.V_mono (ok' := fun k => w.heap.size + 1 ≤ k) hV (fun k hk => Nat.le_trans HS.sz hk)); clear hV; replace HS := HS.next hb hl; obtain ⟨y0, y1, y2, y3, y4, y5, zf⟩ := HS.cells; clear hb hl))
  refine bodyPost_ret (results_ct rfl _ _ w.heap.size 53 _ (0, 0) _ rfl (six_heap HS.blk _ _ _ _ _ _) Try.underlying53 rfl (by kernel_rfl)) rfl ?_
  exact refpost_of (V_cast (six_V HS.al.top _ _ _ _ _ _) (by kernel_rfl)) (by kernel_rfl) (HS.fin.trans (six_below _ _ _ _ _ _))
set_option maxHeartbeats 2000000 in
set_option maxRecDepth 100000 in
theorem ref_8_none (a1 : Int) (h0 : a1 ≠ 0) (h42 : a1 ≠ 42) (h1 : a1 ≠ 1) (h15 : a1 ≠ 15) (h19 : a1 ≠ 19) (h20 : a1 ≠ 20) (h10 : a1 ≠ 10) (h14 : a1 ≠ 14) (h16 : a1 ≠ 16) (w : World) : Calls Try.prog 23 #[.int .i64 8, .int .i64 a1] w (RefPost (look keysSpot extTab (8, a1)) w) := by
  have e0 : (a1 == 0) = false := beq_eq_false_iff_ne.2 h0
  have e42 : (a1 == 42) = false := beq_eq_false_iff_ne.2 h42
  have e1 : (a1 == 1) = false := beq_eq_false_iff_ne.2 h1
  have e15 : (a1 == 15) = false := beq_eq_false_iff_ne.2 h15
  have e19 : (a1 == 19) = false := beq_eq_false_iff_ne.2 h19
  have e20 : (a1 == 20) = false := beq_eq_false_iff_ne.2 h20
  have e10 : (a1 == 10) = false := beq_eq_false_iff_ne.2 h10
  have e14 : (a1 == 14) = false := beq_eq_false_iff_ne.2 h14
  have e16 : (a1 == 16) = false := beq_eq_false_iff_ne.2 h16
  rw [ext_none (x := (8, a1)) (by rw [extKeyList]; simp [h0, h42, h1, h15, h19, h20, h10, h14, h16])]
  clear h0 h42 h1 h15 h19 h20 h10 h14 h16
  go_enter Try.func23, Try.ntmps23
  go_wp2
  refine bodyPost_ret (results_ct rfl _ _ w.heap.size 53 _ (0, 0) _ rfl (heap_at w _ _ rfl) Try.underlying53 rfl (by kernel_rfl)) rfl ?_
  exact refpost_of (V_cast (l := []) (b := 0) (Kd.V_nil _ _ _ _ _) (by kernel_rfl)) (by kernel_rfl) ((Below.refl _ w).alloc (Nat.le_refl _) _)
set_option maxHeartbeats 2000000 in
set_option maxRecDepth 100000 in
theorem ref_11_5 (w : World) : Calls Try.prog 23 #[.int .i64 11, .int .i64 5] w (RefPost (look keysSpot extTab (11, 5)) w) := by
  have HS := St.begin w
  go_enter Try.func23, Try.ntmps23
  go_wp2_with (first
    | (go_at_call 31; refine ((n_one _).al HS.al HS.sz).mono ?_; rintro e w1 ⟨A1, c1, rfl, hb, hl⟩; replace HS := HS.next hb hl; obtain ⟨y0, y1, y2, y3, y4, y5, zf⟩ := HS.cells; clear hb hl)
    | (go_at_call 32; refine ((o_one _ _ _).al HS.al HS.sz).mono ?_; rintro e w1 ⟨A1, c1, rfl, hb, hl⟩; replace HS := HS.next hb hl; obtain ⟨y0, y1, y2, y3, y4, y5, zf⟩ := HS.cells; clear hb hl)
    | (go_at_call 34; refine (r2_al HS.al HS.sz (by repeat (first | exact .head _ | refine .tail _ ?_)) (by repeat (first | exact .head _ | refine .tail _ ?_))).mono ?_; rintro e w1 ⟨A1, c1, rfl, hb, hl⟩; replace HS := HS.next hb hl; obtain ⟨y0, y1, y2, y3, y4, y5, zf⟩ := HS.cells; clear hb hl))
  refine bodyPost_ret (results_ct rfl _ _ w.heap.size 53 _ (0, 0) _ rfl (six_heap HS.blk _ _ _ _ _ _) Try.underlying53 rfl (by kernel_rfl)) rfl ?_
  exact refpost_of (V_cast (six_V HS.al.top _ _ _ _ _ _) (by kernel_rfl)) (by kernel_rfl) (HS.fin.trans (six_below _ _ _ _ _ _))
set_option maxHeartbeats 2000000 in
set_option maxRecDepth 100000 in
theorem ref_11_18 (w : World) : Calls Try.prog 23 #[.int .i64 11, .int .i64 18] w (RefPost (look keysSpot extTab (11, 18)) w) := by
  have HS := St.begin w
  go_enter Try.func23, Try.ntmps23
  go_wp2_with (first
    | (go_at_call 32; refine ((o_one _ _ _).al HS.al HS.sz).mono ?_; rintro e w1 ⟨A1, c1, rfl, hb, hl⟩; replace HS := HS.next hb hl; obtain ⟨y0, y1, y2, y3, y4, y5, zf⟩ := HS.cells; clear hb hl)
    | (go_at_call 35; refine (l_al HS.al HS.sz _ _ _ _ (by repeat (first | exact .head _ | refine .tail _ ?_))).mono ?_; rintro e w1 ⟨A1, c1, rfl, hb, hl⟩; replace HS := HS.next hb hl; obtain ⟨y0, y1, y2, y3, y4, y5, zf⟩ := HS.cells; clear hb hl))
  refine bodyPost_ret (results_ct rfl _ _ w.heap.size 53 _ (0, 0) _ rfl (six_heap HS.blk _ _ _ _ _ _) Try.underlying53 rfl (by kernel_rfl)) rfl ?_
  exact refpost_of (V_cast (six_V HS.al.top _ _ _ _ _ _) (by kernel_rfl)) (by kernel_rfl) (HS.fin.trans (six_below _ _ _ _ _ _))
set_option maxHeartbeats 2000000 in
set_option maxRecDepth 100000 in
theorem ref_11_none (a1 : Int) (h5 : a1 ≠ 5) (h18 : a1 ≠ 18) (w : World) : Calls Try.prog 23 #[.int .i64 11, .int .i64 a1] w (RefPost (look keysSpot extTab (11, a1)) w) := by
  have e5 : (a1 == 5) = false := beq_eq_false_iff_ne.2 h5
  have e18 : (a1 == 18) = false := beq_eq_false_iff_ne.2 h18
  rw [ext_none (x := (11, a1)) (by rw [extKeyList]; simp [h5, h18])]
  clear h5 h18
  go_enter Try.func23, Try.ntmps23
  go_wp2
  refine bodyPost_ret (results_ct rfl _ _ w.heap.size 53 _ (0, 0) _ rfl (heap_at w _ _ rfl) Try.underlying53 rfl (by kernel_rfl)) rfl ?_
  exact refpost_of (V_cast (l := []) (b := 0) (Kd.V_nil _ _ _ _ _) (by kernel_rfl)) (by kernel_rfl) ((Below.refl _ w).alloc (Nat.le_refl _) _)
set_option maxHeartbeats 2000000 in
set_option maxRecDepth 100000 in
theorem ref_13_5 (w : World) : Calls Try.prog 23 #[.int .i64 13, .int .i64 5] w (RefPost (look keysSpot extTab (13, 5)) w) := by
  have HS := St.begin w
  go_enter Try.func23, Try.ntmps23
  go_wp2_with (first
    | (go_at_call 33; refine (empty_one.al HS.al HS.sz).mono ?_; rintro e w1 ⟨A1, c1, rfl, hb, hl⟩; replace HS := HS.next hb hl; obtain ⟨y0, y1, y2, y3, y4, y5, zf⟩ := HS.cells; clear hb hl))
  refine bodyPost_ret (results_ct rfl _ _ w.heap.size 53 _ (0, 0) _ rfl (six_heap HS.blk _ _ _ _ _ _) Try.underlying53 rfl (by kernel_rfl)) rfl ?_
  exact refpost_of (V_cast (six_V HS.al.top _ _ _ _ _ _) (by kernel_rfl)) (by kernel_rfl) (HS.fin.trans (six_below _ _ _ _ _ _))
set_option maxHeartbeats 2000000 in
set_option maxRecDepth 100000 in
theorem ref_13_18 (w : World) : Calls Try.prog 23 #[.int .i64 13, .int .i64 18] w (RefPost (look keysSpot extTab (13, 18)) w) := by
  have HS := St.begin w
  go_enter Try.func23, Try.ntmps23
  go_wp2_with (first
    | (go_at_call 33; refine (empty_one.al HS.al HS.sz).mono ?_; rintro e w1 ⟨A1, c1, rfl, hb, hl⟩; replace HS := HS.next hb hl; obtain ⟨y0, y1, y2, y3, y4, y5, zf⟩ := HS.cells; clear hb hl))
  refine bodyPost_ret (results_ct rfl _ _ w.heap.size 53 _ (0, 0) _ rfl (six_heap HS.blk _ _ _ _ _ _) Try.underlying53 rfl (by kernel_rfl)) rfl ?_
  exact refpost_of (V_cast (six_V HS.al.top _ _ _ _ _ _) (by kernel_rfl)) (by kernel_rfl) (HS.fin.trans (six_below _ _ _ _ _ _))
set_option maxHeartbeats 2000000 in
set_option maxRecDepth 100000 in
theorem ref_13_13 (w : World) : Calls Try.prog 23 #[.int .i64 13, .int .i64 13] w (RefPost (look keysSpot extTab (13, 13)) w) := by
  have HS := St.begin w
  go_enter Try.func23, Try.ntmps23
  go_wp2_with (first
    | (go_at_call 29; refine (hello_ref 13 _).mono ?_; rintro e w1 ⟨v5, rfl, hV, hb⟩; obtain ⟨A1, c1, rfl⟩ := Kd.V_slice hV; have hl := (HS.al.below hb).add (Kd.V_mono (ok' := fun k => w.heap.size + 1 ≤ k) hV (fun k hk => Nat.le_trans HS.sz hk)); clear hV; replace HS := HS.next hb hl; obtain ⟨y0, y1, y2, y3, y4, y5, zf⟩ := HS.cells; clear hb hl))
  refine bodyPost_ret (results_ct rfl _ _ w.heap.size 53 _ (0, 0) _ rfl (six_heap HS.blk _ _ _ _ _ _) Try.underlying53 rfl (by kernel_rfl)) rfl ?_
  exact refpost_of (V_cast (six_V HS.al.top _ _ _ _ _ _) (by kernel_rfl)) (by kernel_rfl) (HS.fin.trans (six_below _ _ _ _ _ _))
set_option maxHeartbeats 2000000 in
set_option maxRecDepth 100000 in
theorem ref_13_47 (w : World) : Calls Try.prog 23 #[.int .i64 13, .int .i64 47] w (RefPost (look keysSpot extTab (13, 47)) w) := by
  have HS := St.begin w
  go_enter Try.func23, Try.ntmps23
  go_wp2_with (first
    | (go_at_call 29; refine (hello_ref 47 _).mono ?_; rintro e w1 ⟨v5, rfl, hV, hb⟩; obtain ⟨A1, c1, rfl⟩ := Kd.V_slice hV; have hl := (HS.al.below hb).add (Kd.V_mono (ok' := fun k => w.heap.size + 1 ≤ k) hV (fun k hk => Nat.le_trans HS.sz hk)); clear hV; replace HS := HS.next hb hl; obtain ⟨y0, y1, y2, y3, y4, y5, zf⟩ := HS.cells; clear hb hl))
  refine bodyPost_ret (results_ct rfl _ _ w.heap.size 53 _ (0, 0) _ rfl (six_heap HS.blk _ _ _ _ _ _) Try.underlying53 rfl (by kernel_rfl)) rfl ?_
  exact refpost_of (V_cast (six_V HS.al.top _ _ _ _ _ _) (by kernel_rfl)) (by kernel_rfl) (HS.fin.trans (six_below _ _ _ _ _ _))
set_option maxHeartbeats 2000000 in
set_option maxRecDepth 100000 in
theorem ref_13_50 (w : World) : Calls Try.prog 23 #[.int .i64 13, .int .i64 50] w (RefPost (look keysSpot extTab (13, 50)) w) := by
  have HS := St.begin w
  go_enter Try.func23, Try.ntmps23
  go_wp2_with (first
    | (go_at_call 29; refine (hello_ref 50 _).mono ?_; rintro e w1 ⟨v5, rfl, hV, hb⟩; obtain ⟨A1, c1, rfl⟩ := Kd.V_slice hV; have hl := (HS.al.below hb).add (Kd.V_mono (ok' := fun k => w.heap.size + 1 ≤ k) hV (fun k hk => Nat.le_trans HS.sz hk)); clear hV; replace HS := HS.next hb hl; obtain ⟨y0, y1, y2, y3, y4, y5, zf⟩ := HS.cells; clear hb hl))
  refine bodyPost_ret (results_ct rfl _ _ w.heap.size 53 _ (0, 0) _ rfl (six_heap HS.blk _ _ _ _ _ _) Try.underlying53 rfl (by kernel_rfl)) rfl ?_
  exact refpost_of (V_cast (six_V HS.al.top _ _ _ _ _ _) (by kernel_rfl)) (by kernel_rfl) (HS.fin.trans (six_below _ _ _ _ _ _))
set_option maxHeartbeats 2000000 in
set_option maxRecDepth 100000 in
theorem ref_13_48 (w : World) : Calls Try.prog 23 #[.int .i64 13, .int .i64 48] w (RefPost (look keysSpot extTab (13, 48)) w) := by
  have HS := St.begin w
  go_enter Try.func23, Try.ntmps23
  go_wp2_with (first
    | (go_at_call 32; refine ((o_one _ _ _).al HS.al HS.sz).mono ?_; rintro e w1 ⟨A1, c1, rfl, hb, hl⟩; replace HS := HS.next hb hl; obtain ⟨y0, y1, y2, y3, y4, y5, zf⟩ := HS.cells; clear hb hl)
    | (go_at_call 34; refine (r2_al HS.al HS.sz (by repeat (first | exact .head _ | refine .tail _ ?_)) (by repeat (first | exact .head _ | refine .tail _ ?_))).mono ?_; rintro e w1 ⟨A1, c1, rfl, hb, hl⟩; replace HS := HS.next hb hl; obtain ⟨y0, y1, y2, y3, y4, y5, zf⟩ := HS.cells; clear hb hl)
    | (go_at_call 35; refine (l_al HS.al HS.sz _ _ _ _ (by repeat (first | exact .head _ | refine .tail _ ?_))).mono ?_; rintro e w1 ⟨A1, c1, rfl, hb, hl⟩; replace HS := HS.next hb hl; obtain ⟨y0, y1, y2, y3, y4, y5, zf⟩ := HS.cells; clear hb hl))
  refine bodyPost_ret (results_ct rfl _ _ w.heap.size 53 _ (0, 0) _ rfl (six_heap HS.blk _ _ _ _ _ _) Try.underlying53 rfl (by kernel_rfl)) rfl ?_
  exact refpost_of (V_cast (six_V HS.al.top _ _ _ _ _ _) (by kernel_rfl)) (by kernel_rfl) (HS.fin.trans (six_below _ _ _ _ _ _))
set_option maxHeartbeats 2000000 in
set_option maxRecDepth 100000 in
theorem ref_13_none (a1 : Int) (h5 : a1 ≠ 5) (h18 : a1 ≠ 18) (h13 : a1 ≠ 13) (h47 : a1 ≠ 47) (h50 : a1 ≠ 50) (h48 : a1 ≠ 48) (w : World) : Calls Try.prog 23 #[.int .i64 13, .int .i64 a1] w (RefPost (look keysSpot extTab (13, a1)) w) := by
  have e5 : (a1 == 5) = false := beq_eq_false_iff_ne.2 h5
  have e18 : (a1 == 18) = false := beq_eq_false_iff_ne.2 h18
  have e13 : (a1 == 13) = false := beq_eq_false_iff_ne.2 h13
  have e47 : (a1 == 47) = false := beq_eq_false_iff_ne.2 h47
  have e50 : (a1 == 50) = false := beq_eq_false_iff_ne.2 h50
  have e48 : (a1 == 48) = false := beq_eq_false_iff_ne.2 h48
  rw [ext_none (x := (13, a1)) (by rw [extKeyList]; simp [h5, h18, h13, h47, h50, h48])]
  clear h5 h18 h13 h47 h50 h48
  go_enter Try.func23, Try.ntmps23
  go_wp2
  refine bodyPost_ret (results_ct rfl _ _ w.heap.size 53 _ (0, 0) _ rfl (heap_at w _ _ rfl) Try.underlying53 rfl (by kernel_rfl)) rfl ?_
  exact refpost_of (V_cast (l := []) (b := 0) (Kd.V_nil _ _ _ _ _) (by kernel_rfl)) (by kernel_rfl) ((Below.refl _ w).alloc (Nat.le_refl _) _)
set_option maxHeartbeats 2000000 in
set_option maxRecDepth 100000 in
theorem ref_none (a0 a1 : Int) (h1 : a0 ≠ 1) (h2 : a0 ≠ 2) (h6 : a0 ≠ 6) (h4 : a0 ≠ 4) (h8 : a0 ≠ 8) (h11 : a0 ≠ 11) (h13 : a0 ≠ 13) (w : World) : Calls Try.prog 23 #[.int .i64 a0, .int .i64 a1] w (RefPost (look keysSpot extTab (a0, a1)) w) := by
  have e1 : (a0 == 1) = false := beq_eq_false_iff_ne.2 h1
  have e2 : (a0 == 2) = false := beq_eq_false_iff_ne.2 h2
  have e6 : (a0 == 6) = false := beq_eq_false_iff_ne.2 h6
  have e4 : (a0 == 4) = false := beq_eq_false_iff_ne.2 h4
  have e8 : (a0 == 8) = false := beq_eq_false_iff_ne.2 h8
  have e11 : (a0 == 11) = false := beq_eq_false_iff_ne.2 h11
  have e13 : (a0 == 13) = false := beq_eq_false_iff_ne.2 h13
  rw [ext_none (x := (a0, a1)) (by rw [extKeyList]; simp [h1, h2, h6, h4, h8, h11, h13])]
  clear h1 h2 h6 h4 h8 h11 h13
  go_enter Try.func23, Try.ntmps23
  go_wp2
  refine bodyPost_ret (results_ct rfl _ _ w.heap.size 53 _ (0, 0) _ rfl (heap_at w _ _ rfl) Try.underlying53 rfl (by kernel_rfl)) rfl ?_
  exact refpost_of (V_cast (l := []) (b := 0) (Kd.V_nil _ _ _ _ _) (by kernel_rfl)) (by kernel_rfl) ((Below.refl _ w).alloc (Nat.le_refl _) _)
set_option maxHeartbeats 2000000 in
set_option maxRecDepth 100000 in
theorem ref_1 (a1 : Int) (w : World) : Calls Try.prog 23 #[.int .i64 1, .int .i64 a1] w (RefPost (look keysSpot extTab (1, a1)) w) := by
  have hh := hello_ref a1
  generalize look keysSpot extTab (1, a1) = o at hh
  replace hh := Aside0.mk hh
  have HS := St.begin w
  go_enter Try.func23, Try.ntmps23
  go_wp2_with (first
    | (go_at_call 29; refine (hh.out _).mono ?_; rintro e w1 ⟨v5, rfl, hV, hb⟩; obtain ⟨A1, c1, rfl⟩ := Kd.V_slice hV; have hl := (HS.al.below hb).add (Kd.V_mono (ok' := fun k => w.heap.size + 1 ≤ k) hV (fun k hk => Nat.le_trans HS.sz hk)); clear hV; replace HS := HS.next hb hl; obtain ⟨y0, y1, y2, y3, y4, y5, zf⟩ := HS.cells; clear hb hl))
  refine bodyPost_ret (results_ct rfl _ _ w.heap.size 53 _ (0, 0) _ rfl (six_heap HS.blk _ _ _ _ _ _) Try.underlying53 rfl (by kernel_rfl)) rfl ?_
  exact refpost_of (six_V HS.al.top _ _ _ _ _ _) rfl (HS.fin.trans (six_below _ _ _ _ _ _))
theorem Ext_ref (a0 a1 : Int) (w : World) : Calls Try.prog 23 #[.int .i64 a0, .int .i64 a1] w (RefPost (look keysSpot extTab (a0, a1)) w) := by
  by_cases h1 : a0 = 1
  · subst h1; exact ref_1 a1 w
  by_cases h2 : a0 = 2
  · subst h2
    by_cases k51 : a1 = 51
    · subst k51; exact ref_2_51 w
    by_cases k41 : a1 = 41
    · subst k41; exact ref_2_41 w
    by_cases k43 : a1 = 43
    · subst k43; exact ref_2_43 w
    exact ref_2_none a1 k51 k41 k43 w
  by_cases h6 : a0 = 6
  · subst h6
    by_cases k43 : a1 = 43
    · subst k43; exact ref_6_43 w
    by_cases k51 : a1 = 51
    · subst k51; exact ref_6_51 w
    by_cases k44 : a1 = 44
    · subst k44; exact ref_6_44 w
    exact ref_6_none a1 k43 k51 k44 w
  by_cases h4 : a0 = 4
  · subst h4
    by_cases k42 : a1 = 42
    · subst k42; exact ref_4_42 w
    exact ref_4_none a1 k42 w
  by_cases h8 : a0 = 8
  · subst h8
    by_cases k0 : a1 = 0
    · subst k0; exact ref_8_0 w
    by_cases k42 : a1 = 42
    · subst k42; exact ref_8_42 w
    by_cases k1 : a1 = 1
    · subst k1; exact ref_8_1 w
    by_cases k15 : a1 = 15
    · subst k15; exact ref_8_15 w
    by_cases k19 : a1 = 19
    · subst k19; exact ref_8_19 w
    by_cases k20 : a1 = 20
    · subst k20; exact ref_8_20 w
    by_cases k10 : a1 = 10
    · subst k10; exact ref_8_10 w
    by_cases k14 : a1 = 14
    · subst k14; exact ref_8_14 w
    by_cases k16 : a1 = 16
    · subst k16; exact ref_8_16 w
    exact ref_8_none a1 k0 k42 k1 k15 k19 k20 k10 k14 k16 w
  by_cases h11 : a0 = 11
  · subst h11
    by_cases k5 : a1 = 5
    · subst k5; exact ref_11_5 w
    by_cases k18 : a1 = 18
    · subst k18; exact ref_11_18 w
    exact ref_11_none a1 k5 k18 w
  by_cases h13 : a0 = 13
  · subst h13
    by_cases k5 : a1 = 5
    · subst k5; exact ref_13_5 w
    by_cases k18 : a1 = 18
    · subst k18; exact ref_13_18 w
    by_cases k13 : a1 = 13
    · subst k13; exact ref_13_13 w
    by_cases k47 : a1 = 47
    · subst k47; exact ref_13_47 w
    by_cases k50 : a1 = 50
    · subst k50; exact ref_13_50 w
    by_cases k48 : a1 = 48
    · subst k48; exact ref_13_48 w
    exact ref_13_none a1 k5 k18 k13 k47 k50 k48 w
  exact ref_none a0 a1 h1 h2 h6 h4 h8 h11 h13 w
def r13_Ext.f (a0 a1 : Int) : Option (Int × Int × Int × Int × Int × List Form × Bool) := shape_Ext.f a0 a1
theorem r13_Ext.calls (a0 a1 : Int) (r1 : Int) (r2 : Int) (r3 : Int) (r4 : Int) (r5 : Int) (r6 : List Form) (r7 : Bool) (w : World) (h : r13_Ext.f a0 a1 = some (r1, r2, r3, r4, r5, r6, r7)) :
    Calls Try.prog 23 #[.int .i64 a0, .int .i64 a1] w fun e w' => ∃ v5_ : Value, e = .returned (.tuple #[.agg #[.int .i64 r1, .int .i64 r2, .int .i64 r3, .int .i64 r4, .int .i64 r5, v5_], .bool r7]) ∧ Kd.V kForm 53 w' w.heap.size (fun k_ => (w.heap.size ≤ k_)) v5_ r6 ∧ Below w.heap.size w w' := by
  unfold r13_Ext.f shape_Ext.f at h
  split at h
  case isFalse => cases h
  have hr := Ext_ref a0 a1 w
  generalize look keysSpot extTab (a0, a1) = o at h hr
  simp only [tell, Option.some.injEq, Prod.mk.injEq] at h
  obtain ⟨rfl, rfl, rfl, rfl, rfl, rfl, rfl⟩ := h
  exact hr
end Go.Proofs.Ytpndiobbogelpaa
