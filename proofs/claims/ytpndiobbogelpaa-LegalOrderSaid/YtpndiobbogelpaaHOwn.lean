/- A row of forms whose first ones have been made anew while the rest are still shared: what a store of one more does. Plain, no program; no condition beyond the lemmas' own. -/
import Derived.Test.YtpndiobbogelpaaHShapeC
import Derived.Shelf.RegionOpen
namespace Go.Proofs.Ytpndiobbogelpaa
open Go Go.RowKit Go.Maps Go.Proofs.Hand Go.Proofs.YtpndiobbogelpaaW.PrintWords Go.Proofs.YtpndiobbogelpaaW.PrintLast Go.Proofs.YtpndiobbogelpaaW.PrintMore
set_option maxRecDepth 100000

def chunk (inner : List Value) (j : Nat) : List Value := (inner.drop (j * 6)).take 6
def okM (B : Nat) (v : Value) (k : Nat) : Prop := B ≤ k ∧ some k ≠ v.ownBlock
def okF (W : World) (B : Nat) (v : Value) (k : Nat) : Prop := (k < W.heap.size ∨ B ≤ k) ∧ some k ≠ v.ownBlock
/-- Of the row v the first i elements are made, the others shared. -/
def OwnSt (l : List Form) (W : World) (B : Nat) (v : Value) (i : Nat) (wr : World) : Prop :=
  ∃ inner, wr.ownsRow B 53 6 v l.length inner ∧ (∀ (j : Nat) (x : Form), l[j]? = some x → j < i → kForm.M wr B (okM B v) x (chunk inner j)) ∧ (∀ (j : Nat) (x : Form), l[j]? = some x → i ≤ j → Kd.FK kForm wr (okF W B v) x (chunk inner j))
theorem OwnSt.step {l : List Form} {W : World} {B : Nat} {v : Value} {i : Nat} {wr w2 : World} (h : OwnSt l W B v i wr) (hk : ∀ k, k < wr.heap.size → (k < W.heap.size ∨ B ≤ k) → w2.heap[k]? = wr.heap[k]?) : OwnSt l W B v i w2 := by
  obtain ⟨inner, h1, h2, h3⟩ := h
  refine ⟨inner, own_move h1 (fun k hk' => hk k (own_lt h1 k hk') (.inr (own_base h1 k hk'))), fun j x hx hj => Kd.M_step (h2 j x hx hj) (fun k hok hlt => hk k hlt (.inr hok.1)), fun j x hx hj => Kd.FK_step (h3 j x hx hj) (fun k hok hlt => hk k hlt hok.1)⟩
theorem chunk_splice {inner cs : List Value} {i n : Nat} (hi : i < n) (hl : inner.length = n * 6) (hc : cs.length = 6) (j : Nat) (hj : j < n) :
    chunk (inner.take (i * 6) ++ cs ++ inner.drop (i * 6 + 6)) j = if j = i then cs else chunk inner j := by
  have hb : i * 6 + 6 ≤ n * 6 := by have := Nat.mul_le_mul_right 6 (show i + 1 ≤ n by omega); omega
  have hbj : j * 6 + 6 ≤ n * 6 := by have := Nat.mul_le_mul_right 6 (show j + 1 ≤ n by omega); omega
  unfold chunk
  apply List.ext_getElem?
  intro q
  by_cases hq : q < 6
  · rw [List.getElem?_take, if_pos hq, List.getElem?_drop]
    have ht : (inner.take (i * 6)).length = i * 6 := by rw [List.length_take]; omega
    split
    · rename_i e
      subst e
      rw [List.append_assoc, List.getElem?_append_right (by omega), ht, List.getElem?_append_left (by omega)]
      congr 1
      omega
    · rename_i hne
      rw [List.getElem?_take, if_pos hq, List.getElem?_drop]
      rcases Nat.lt_or_gt_of_ne hne with h | h
      · have := Nat.mul_le_mul_right 6 (show j + 1 ≤ i by omega)
        rw [List.append_assoc, List.getElem?_append_left (by omega), List.getElem?_take, if_pos (by omega)]
      · have := Nat.mul_le_mul_right 6 (show i + 1 ≤ j by omega)
        rw [List.getElem?_append_right (by simp only [List.length_append]; omega), List.getElem?_drop]
        congr 1
        simp only [List.length_append]
        omega
  · rw [List.getElem?_eq_none (by simp; omega), List.getElem?_eq_none]
    split
    · omega
    · simp; omega
theorem OwnSt.put {l : List Form} {W : World} {B g c : Nat} {i : Nat} {wr : World} {x : Form} {cs : List Value} (h : OwnSt l W B (.slice (some ⟨g, 0, none⟩) l.length c) i wr) (hx : l[i]? = some x) (hM : kForm.M wr B (okM B (.slice (some ⟨g, 0, none⟩) l.length c)) x cs) :
    OwnSt l W B (.slice (some ⟨g, 0, none⟩) l.length c) (i + 1) (wr.setCells g (i * 6) cs) ∧ (∀ k, k ≠ g → (wr.setCells g (i * 6) cs).heap[k]? = wr.heap[k]?) ∧ (wr.setCells g (i * 6) cs).heap.size = wr.heap.size := by
  obtain ⟨inner, h1, h2, h3⟩ := h
  have hcs : cs.length = 6 := kForm.K_len (kForm.K_of_M hM)
  have hil := (List.getElem?_eq_some_iff.1 hx).1
  have hfar : ∀ k, k ≠ g → (wr.setCells g (i * 6) cs).heap[k]? = wr.heap[k]? := fun k hk => setCells_far cs _ k hk
  refine ⟨?_, hfar, (setCells_same g cs (i * 6) wr).2.2.2⟩
  obtain ⟨hin, hcase⟩ := h1
  rcases hcase with ⟨e, _⟩ | ⟨g', cap, cur, e, hg, hh, hle, hmax, hsz, htake⟩
  · cases e
  simp only [Value.slice.injEq, Option.some.injEq, Addr.mk.injEq, true_and, and_true] at e
  obtain ⟨rfl, rfl⟩ := e
  have hb : i * 6 + 6 ≤ l.length * 6 := by have := Nat.mul_le_mul_right 6 (show i + 1 ≤ l.length by omega); omega
  have hb2 : l.length * 6 ≤ cur.size := by rw [hsz]; exact Nat.mul_le_mul_right 6 hle
  obtain ⟨cur', k1, k2, k3⟩ := setCells_row cs (i * 6) wr cur hh (by omega)
  have hown : ∀ k : Nat, okM B (.slice (some ⟨g, 0, none⟩) l.length c) k → k ≠ g := fun k hk e => hk.2 (by rw [e]; rfl)
  have hownF : ∀ k : Nat, okF W B (.slice (some ⟨g, 0, none⟩) l.length c) k → k ≠ g := fun k hk e => hk.2 (by rw [e]; rfl)
  refine ⟨inner.take (i * 6) ++ cs ++ inner.drop (i * 6 + 6), ⟨?_, .inr ⟨g, c, cur', rfl, hg, k1, hle, hmax, by rw [k2]; exact hsz, ?_⟩⟩, fun j y hy hj => ?_, fun j y hy hj => ?_⟩
  · simp only [List.length_append, List.length_take, List.length_drop]; omega
  · have hl1 : (cur.toList.take (i * 6) ++ cs).length = i * 6 + 6 := by rw [List.length_append, List.length_take, Array.length_toList]; omega
    rw [k3, hcs, ← htake, List.take_append, List.take_of_length_le (by omega), hl1, List.take_take, Nat.min_eq_left (by omega), List.drop_take]
  · have hjl := (List.getElem?_eq_some_iff.1 hy).1
    rw [chunk_splice hil hin hcs j hjl]
    split
    · rename_i e
      subst e
      rw [hx] at hy
      obtain rfl := Option.some.inj hy
      exact Kd.M_step hM (fun k hk _ => hfar k (hown k hk))
    · exact Kd.M_step (h2 j y hy (by omega)) (fun k hk _ => hfar k (hown k hk))
  · have hjl := (List.getElem?_eq_some_iff.1 hy).1
    rw [chunk_splice hil hin hcs j hjl, if_neg (by omega)]
    exact Kd.FK_step (h3 j y hy (by omega)) (fun k hk _ => hfar k (hownF k hk))
theorem own_room {l : List Form} {W wr : World} {B g c i : Nat} (h : OwnSt l W B (.slice (some ⟨g, 0, none⟩) l.length c) i wr) {j : Nat} (hj : j < l.length) : ∃ cur : Array Value, wr.heap[g]? = some (.cells cur 53 (0, 0)) ∧ j * 6 + 6 ≤ cur.size := by
  obtain ⟨inner, ⟨_, hcase⟩, _⟩ := h
  rcases hcase with ⟨e, _⟩ | ⟨g', cap, cur, e, hg, hh, hle, hmax, hsz, htake⟩
  · cases e
  simp only [Value.slice.injEq, Option.some.injEq, Addr.mk.injEq, true_and, and_true] at e
  obtain ⟨rfl, rfl⟩ := e
  have := Nat.mul_le_mul_right 6 (show j + 1 ≤ c by omega)
  exact ⟨cur, hh, by omega⟩
theorem cell_room {wr : World} {g : Nat} {cur : Array Value} (h : wr.heap[g]? = some (.cells cur 53 (0, 0))) {k : Nat} (hk : k < cur.size) : ∃ u, wr.cell? ⟨g, k, none⟩ = some u :=
  ⟨cur[k], by simp [World.cell?, h, hk]⟩
/-- When all are made the row is one's own. -/
theorem own_R {l : List Form} {W wr : World} {v : Value} (h : OwnSt l W (W.heap.size + 2) v l.length wr) : Kd.R kForm 53 wr W.heap.size (fun k => W.heap.size ≤ k) v l := by
  obtain ⟨inner, h1, h2, _⟩ := h
  refine ⟨fun k hk => by have := own_base h1 k hk; omega, inner, own_weaken h1 (by omega), h1.1, fun j x hx => ?_⟩
  have hj := (List.getElem?_eq_some_iff.1 hx).1
  exact kForm.M_lower (by omega) (kForm.M_mono (fun k hk => ⟨by have := hk.1; omega, hk.2⟩) (h2 j x hx hj))
end Go.Proofs.Ytpndiobbogelpaa

namespace Go.Proofs.Ytpndiobbogelpaa
open Go Go.RowKit Go.Maps Go.Proofs.Hand Go.Proofs.YtpndiobbogelpaaW.PrintWords Go.Proofs.YtpndiobbogelpaaW.PrintLast Go.Proofs.YtpndiobbogelpaaW.PrintMore
set_option maxRecDepth 100000

/-- Its rows are short, at every depth. -/
inductive Short : Form → Prop
  | mk (f : Form) (hl : f.f5.length ≤ 1000) (h : ∀ g ∈ f.f5, Short g) : Short f
def OwnOk (f : Form) : Prop := ∀ (W : World) (cs : List Value), Kd.FK kForm W (fun k => k < W.heap.size) f cs →
  Calls Try.prog 28 #[.agg cs.toArray] W fun e W' => ∃ v5, e = .returned (.agg #[.int .i64 f.f0, .int .i64 f.f1, .int .i64 f.f2, .int .i64 f.f3, .int .i64 f.f4, v5]) ∧ Kd.R kForm 53 W' W.heap.size (fun k => W.heap.size ≤ k) v5 f.f5 ∧ Below W.heap.size W W'

theorem clone_none_any (W : World) (c : Nat) :
    Calls Try.prog 46 #[.slice none 0 c] W fun e W' => e = .returned (.slice none 0 0) ∧ Below W.heap.size W W' := by
  have hl := fun W => run_eql_slice_nil W 51 53 none 0 c formsU
  simp only [Option.isNone_none] at hl
  go_enter Try.func46, Try.ntmps46
  go_wp2
  go_ret
  exact ⟨rfl, Below.refl _ _⟩
set_option maxRecDepth 100000 in
set_option maxHeartbeats 2000000 in
theorem own_step (f : Form) (hl : f.f5.length ≤ 1000) (ih : ∀ g ∈ f.f5, OwnOk g) : OwnOk f := by
  intro W cs hf
  obtain ⟨A5, c5, rfl, hlc, hF⟩ := k53_openF hf
  have hblk := heap_at W (.cells #[.int .i64 f.f0, .int .i64 f.f1, .int .i64 f.f2, .int .i64 f.f3, .int .i64 f.f4, .slice A5 f.f5.length c5] 53) W.heap.size rfl
  have hblk2 := heap_at (W.alloc (.cells #[.int .i64 f.f0, .int .i64 f.f1, .int .i64 f.f2, .int .i64 f.f3, .int .i64 f.f4, .slice A5 f.f5.length c5] 53)) (.cells #[(.int .i64 0), (.int .i64 0), (.int .i64 0), (.int .i64 0), (.int .i64 0), (.slice none 0 0)] 53) (W.heap.size + 1) (by simp)
  replace hblk := Aside0.mk hblk
  replace hblk2 := Aside0.mk hblk2
  replace hF := Aside0.mk hF
  replace ih := Aside0.mk ih
  clear hf
  go_enter Try.func28, Try.ntmps28
  cases A5 with
  | none =>
    obtain ⟨f0, f1, f2, f3, f4, f5⟩ := f
    obtain rfl : f5 = [] := by
      have h1 := (Kd.F_now hF.out)
      apply Classical.byContradiction
      intro hne
      obtain ⟨ad, e, _⟩ := h1.2.2 (List.length_pos_iff.2 hne)
      cases e
    go_wp2_with (first
      | (go_at_call 46; refine (clone_none_any _ c5).mono ?_; rintro e w1 ⟨rfl, hb⟩; have hb1 := (hb.block W.heap.size (by simp; omega)).trans ((Below.heap_alloc _ _ _ (by simp)).trans hblk.out); have hb2 := (hb.block (W.heap.size + 1) (by simp)).trans hblk2.out; obtain ⟨p0, p1, p2, p3, p4, p5⟩ := cells6 hb1; obtain ⟨y0, y1, y2, y3, y4, y5⟩ := cells6 hb2; have q0 : ∀ i, w1.frozen? ⟨W.heap.size, i, none⟩ = false := (fun i => by simp [World.frozen?, hb1]); have q1 : ∀ i, w1.frozen? ⟨W.heap.size + 1, i, none⟩ = false := (fun i => by simp [World.frozen?, hb2]); replace hb1 := Aside0.mk hb1; replace hb2 := Aside0.mk hb2))
    refine wp_loop_rounds 1 ?_
    rw [rounds_succ]
    have hsz1 := hb.size
    rw [World.size_alloc, World.size_alloc] at hsz1 hb
    go_wp2
    obtain ⟨W7, hW7⟩ : ∃ W7, (((((((w1.setCell ⟨W.heap.size, 5, none⟩ (.slice none 0 0)).setCell ⟨W.heap.size + 1, 0, none⟩ (.int .i64 f0)).setCell ⟨W.heap.size + 1, 1, none⟩ (.int .i64 f1)).setCell ⟨W.heap.size + 1, 2, none⟩ (.int .i64 f2)).setCell ⟨W.heap.size + 1, 3, none⟩ (.int .i64 f3)).setCell ⟨W.heap.size + 1, 4, none⟩ (.int .i64 f4)).setCell ⟨W.heap.size + 1, 5, none⟩ (.slice none 0 0)) = W7 := ⟨_, rfl⟩
    have hB7 : Below W.heap.size w1 W7 := by
      rw [← hW7]
      exact (((((((Below.refl _ w1).setCell (by simp) _).setCell (by simp) _).setCell (by simp) _).setCell (by simp) _).setCell (by simp) _).setCell (by simp) _).setCell (by simp) _
    refine bodyPost_ret (v := .agg #[.int .i64 f0, .int .i64 f1, .int .i64 f2, .int .i64 f3, .int .i64 f4, .slice none 0 0]) (by simp [results, Try.results28, go_sem, y0, y1, y2, y3, y4, y5]) rfl ?_
    rw [hW7]
    exact ⟨_, rfl, Kd.R_nil _ _ _ _ _, ((((Below.refl _ W).alloc (Nat.le_refl _) _).alloc (by simp) _).trans (hb.mono (by omega))).trans hB7⟩
  | some ad =>
    go_wp2_with (first
      | (go_at_call 46; refine (clone_some _ (fun k => k < W.heap.size) ad f.f5.length c5 f.f5 hl (Kd.F_alloc (Kd.F_alloc hF.out _) _)).mono ?_; rintro e w1 ⟨v, rfl, hb, hN⟩; obtain ⟨A1, c1, rfl, -, -⟩ := Kd.N_reads hN; have hb1 := (hb.block W.heap.size (by simp; omega)).trans ((Below.heap_alloc _ _ _ (by simp)).trans hblk.out); obtain ⟨p0, p1, p2, p3, p4, p5⟩ := cells6 hb1; have q0 : ∀ i, w1.frozen? ⟨W.heap.size, i, none⟩ = false := (fun i => by simp [World.frozen?, hb1]); replace hN := Aside0.mk hN; replace hb1 := Aside0.mk hb1))
    obtain ⟨W3, hW3⟩ : ∃ W3, w1.setCell ⟨W.heap.size, 5, none⟩ (.slice A1 f.f5.length c1) = W3 := ⟨_, rfl⟩
    rw [hW3]
    have hsz1 := hb.size
    rw [World.size_alloc, World.size_alloc] at hsz1 hb
    have hoth : ∀ k, k ≠ W.heap.size → W3.heap[k]? = w1.heap[k]? := fun k hk => by rw [← hW3]; exact Below.heap_setCell w1 _ _ k hk
    have hsz3 : W3.heap.size = w1.heap.size := by rw [← hW3]; simp [World.setCell]
    have hB3 : Below W.heap.size W W3 := by
      refine ((((Below.refl _ W).alloc (Nat.le_refl _) _).alloc (by simp) _).trans (hb.mono (by omega))).trans ?_
      rw [← hW3]; exact (Below.refl _ w1).setCell (p := ⟨W.heap.size, 5, none⟩) (Nat.le_refl _) _
    have hbox : W3.heap[W.heap.size]? = some (.cells #[.int .i64 f.f0, .int .i64 f.f1, .int .i64 f.f2, .int .i64 f.f3, .int .i64 f.f4, .slice A1 f.f5.length c1] 53 (0, 0)) := by
      rw [← hW3]; exact blk_set hb1.out 5 _
    have hbox2 : W3.heap[W.heap.size + 1]? = some (.cells #[(.int .i64 0), (.int .i64 0), (.int .i64 0), (.int .i64 0), (.int .i64 0), (.slice none 0 0)] 53 (0, 0)) :=
      (hoth _ (by omega)).trans ((hb.block _ (by omega)).trans hblk2.out)
    obtain ⟨hown0, rows, hrl, hR, hfk⟩ := hN.out
    obtain ⟨inner, how, hreps⟩ := hR.2
    replace hfk := Aside0.mk hfk
    replace hreps := Aside0.mk hreps
    replace how := Aside0.mk how
    replace hR := Aside0.mk hR
    clear hW3 p0 p1 p2 p3 p4 p5 q0
    have hst0 : OwnSt f.f5 W (W.heap.size + 2) (.slice A1 f.f5.length c1) 0 W3 := by
      have hbase : ((W.alloc (.cells #[.int .i64 f.f0, .int .i64 f.f1, .int .i64 f.f2, .int .i64 f.f3, .int .i64 f.f4, .slice (some ad) f.f5.length c5] 53)).alloc (.cells #[(.int .i64 0), (.int .i64 0), (.int .i64 0), (.int .i64 0), (.int .i64 0), (.slice none 0 0)] 53)).heap.size = W.heap.size + 2 := by simp
      have how1 := how.out
      rw [hbase, hrl] at how1
      refine ⟨inner, own_move how1 (fun k hk => hoth k (by have := own_base how1 k hk; omega)), fun j x hx hj => absurd hj (Nat.not_lt_zero _), fun j x hx _ => ?_⟩
      have hjl := (List.getElem?_eq_some_iff.1 hx).1
      have hr : rows[j]? = some (rows[j]'(by omega)) := List.getElem?_eq_getElem (by omega)
      have hc : chunk inner j = rows[j]'(by omega) := (hreps.out.2 j _ hr).1
      rw [hc]
      refine Kd.FK_mono (Kd.FK_step (hfk.out j x _ hx hr) (fun k hk _ => hoth k ?_)) (fun k hk => ?_)
      · have := hk.1; rw [hbase] at this; omega
      · have := hk.1; rw [hbase] at this; exact ⟨this, hk.2⟩
    replace hst0 := Aside0.mk hst0
    clear hfk hreps how hR hN hown0
    go_loopw [12] (fun x wr => ∃ i : Nat, i ≤ f.f5.length ∧ x = .int .i64 (i : Int) ∧ OwnSt f.f5 W (W.heap.size + 2) (.slice A1 f.f5.length c1) i wr ∧ wr.heap[W.heap.size]? = some (.cells #[.int .i64 f.f0, .int .i64 f.f1, .int .i64 f.f2, .int .i64 f.f3, .int .i64 f.f4, .slice A1 f.f5.length c1] 53 (0, 0)) ∧
        wr.heap[W.heap.size + 1]? = some (.cells #[(.int .i64 0), (.int .i64 0), (.int .i64 0), (.int .i64 0), (.int .i64 0), (.slice none 0 0)] 53 (0, 0)) ∧ Below W.heap.size W wr)
      (fun x _ => f.f5.length - (intOf x).toNat)
    case atStart => exact ⟨0, Nat.zero_le _, rfl, hst0.out, hbox, hbox2, hB3⟩
    case round =>
      obtain ⟨i, hi, rfl, hst, hbx, hbx2, hbl⟩ := hrel
      by_cases hlt : i < f.f5.length
      · obtain ⟨inner', how', hM', hFK'⟩ := id hst
        obtain ⟨g, rfl⟩ : ∃ g, A1 = some ⟨g, 0, none⟩ := by
          rcases how'.2 with ⟨_, h0⟩ | ⟨g, cap, cur, e, _⟩
          · omega
          · exact ⟨g, by injection e⟩
        have hgB : W.heap.size + 2 ≤ g := own_base how' g rfl
        have hglt : g < wr.heap.size := own_lt how' g rfl
        obtain ⟨x, hx⟩ : ∃ x, f.f5[i]? = some x := ⟨_, List.getElem?_eq_getElem hlt⟩
        have hfx := hFK' i x hx (Nat.le_refl _)
        obtain ⟨A9, c9, hch, h9, -⟩ := k53_openF hfx
        rw [hch] at hfx
        have hcell : ∀ (q : Nat) (u : Value), (chunk inner' i)[q]? = some u → wr.cell? ⟨g, i * 6 + q, none⟩ = some u := fun q u hq => by
          have hq6 : q < 6 := by
            have := (List.getElem?_eq_some_iff.1 hq).1
            unfold chunk at this
            simp at this
            omega
          have := World.ownsRow.cells how' (g := g) rfl (i * 6 + q) u (by unfold chunk at hq; rw [List.getElem?_take, if_pos hq6, List.getElem?_drop] at hq; exact hq)
          rw [← this, add_plain]
        rw [hch] at hcell
        have y0 := hcell 0 _ rfl
        have y1 := hcell 1 _ rfl
        have y2 := hcell 2 _ rfl
        have y3 := hcell 3 _ rfl
        have y4 := hcell 4 _ rfl
        have y5 := hcell 5 _ rfl
        rw [Nat.add_zero] at y0
        obtain ⟨p0, p1, p2, p3, p4, p5⟩ := cells6 hbx
        have hlt9 : W.heap.size < wr.heap.size := (Array.getElem?_eq_some_iff.1 hbx).1
        have hlt10 : W.heap.size + 1 < wr.heap.size := (Array.getElem?_eq_some_iff.1 hbx2).1
        have hmx := mixed
        have hihx := ih.out x (List.mem_of_getElem? hx)
        replace hbx := Aside0.mk hbx
        replace hbx2 := Aside0.mk hbx2
        replace hst := Aside0.mk hst
        replace hfx := Aside0.mk hfx
        replace hihx := Aside0.mk hihx
        replace hx := Aside0.mk hx
        clear how' hM' hFK' hch hcell
        have pi : (0 : Int) ≤ (i : Int) := by omega
        have qi : (i : Int) < (f.f5.length : Int) := by omega
        go_wp2
        obtain ⟨W5, hW5⟩ : ∃ W5, wr.alloc (.cells #[.int .i64 x.f0, .int .i64 x.f1, .int .i64 x.f2, .int .i64 x.f3, .int .i64 x.f4, .slice A9 x.f5.length c9] 53) = W5 := ⟨_, rfl⟩
        rw [hW5]
        have hb5 : Below wr.heap.size wr W5 := by rw [← hW5]; exact (Below.refl _ wr).alloc (Nat.le_refl _) _
        have hbx5 := (hb5.block _ hlt9).trans hbx.out
        have hb4 : W5.heap[wr.heap.size]? = some (.cells #[.int .i64 x.f0, .int .i64 x.f1, .int .i64 x.f2, .int .i64 x.f3, .int .i64 x.f4, .slice A9 x.f5.length c9] 53 (0, 0)) := by rw [← hW5]; exact heap_at wr _ _ rfl
        have hs5 : wr.heap.size ≤ W5.drew.heap.size := hb5.size
        have hcall := hihx.out W5.drew _ (Kd.FK_mono (Kd.FK_step (Kd.FK_bound hfx.out) (fun k hk hlt => (hb5.block k hlt : W5.drew.heap[k]? = wr.heap[k]?))) (fun k hk => Nat.lt_of_lt_of_le hk.2 hs5))
        clear p0 p1 p2 p3 p4 p5 y0 y1 y2 y3 y4 y5 hW5
        obtain ⟨p0, p1, p2, p3, p4, p5⟩ := cells6 hbx5
        obtain ⟨y0, y1, y2, y3, y4, y5⟩ := cells6 hb4
        replace hbx5 := Aside0.mk hbx5
        replace hb4 := Aside0.mk hb4
        replace hb5 := Aside0.mk hb5
        have keep : ∀ w3, Below W5.drew.heap.size W5.drew w3 → ∀ k, k < wr.heap.size → w3.heap[k]? = wr.heap[k]? := fun w3 h3 k hk => (h3.block k (by omega)).trans (hb5.out.block k hk)
        replace keep := Aside0.mk keep
        go_region_with (first
          | (go_at_call 28; refine hcall.mono ?_; rintro e w3 ⟨v6, rfl, hR6, hb6⟩; obtain ⟨A6, c6, rfl⟩ := Kd.R_slice hR6; have hbx6 := (hb6.block W.heap.size (Nat.lt_of_lt_of_le hlt9 hs5)).trans hbx5.out; obtain ⟨s0, s1, s2, s3, s4, s5⟩ := cells6 hbx6; have hst6 := hst.out.step (w2 := w3) (fun k hk _ => keep.out w3 hb6 k hk); obtain ⟨cur6, hcur6, hsz6⟩ : ∃ cur : Array Value, w3.heap[g]? = some (.cells cur 53 (0, 0)) ∧ i * 6 + 6 ≤ cur.size := (own_room hst6 hlt); obtain ⟨u0, z0⟩ := cell_room hcur6 (show i * 6 < cur6.size by omega); obtain ⟨u1, z1⟩ := cell_room hcur6 (show i * 6 + 1 < cur6.size by omega); obtain ⟨u2, z2⟩ := cell_room hcur6 (show i * 6 + 2 < cur6.size by omega); obtain ⟨u3, z3⟩ := cell_room hcur6 (show i * 6 + 3 < cur6.size by omega); obtain ⟨u4, z4⟩ := cell_room hcur6 (show i * 6 + 4 < cur6.size by omega); obtain ⟨u5, z5⟩ := cell_room hcur6 (show i * 6 + 5 < cur6.size by omega); have zf : ∀ k, w3.frozen? ⟨g, k, none⟩ = false := (fun k => by simp [World.frozen?, hcur6]); replace hbx6 := Aside0.mk hbx6; replace hR6 := Aside0.mk hR6; replace hst6 := Aside0.mk hst6; replace hcur6 := Aside0.mk hcur6))
        all_goals
          have hsz6 := hb6.size
          have hR7 : kForm.R 53 w3 (W.heap.size + 2) (okM (W.heap.size + 2) (.slice (some ⟨g, 0, none⟩) f.f5.length c1)) (.slice A6 x.f5.length c6) x.f5 :=
            Kd.R_mono (Kd.R_lower hR6.out (by omega)) (fun k hk => ⟨by omega, fun e => by have : k = g := (by simpa [Value.ownBlock] using e); omega⟩)
          have hput := OwnSt.put hst6.out hx.out (k53_mkM w3 _ _ x hR7)
          obtain ⟨W7, hW7⟩ : ∃ W7, ((((((w3.setCell ⟨g, i * 6, none⟩ (.int .i64 x.f0)).setCell ⟨g, i * 6 + 1, none⟩ (.int .i64 x.f1)).setCell ⟨g, i * 6 + 2, none⟩ (.int .i64 x.f2)).setCell ⟨g, i * 6 + 3, none⟩ (.int .i64 x.f3)).setCell ⟨g, i * 6 + 4, none⟩ (.int .i64 x.f4)).setCell ⟨g, i * 6 + 5, none⟩ (.slice A6 x.f5.length c6)) = W7 := ⟨_, rfl⟩
          have hput7 : OwnSt f.f5 W (W.heap.size + 2) (.slice (some ⟨g, 0, none⟩) f.f5.length c1) (i + 1) W7 ∧ (∀ k, k ≠ g → W7.heap[k]? = w3.heap[k]?) ∧ W7.heap.size = w3.heap.size := by rw [← hW7]; exact hput
          have hB7 : Below W.heap.size w3 W7 := by
            rw [← hW7]
            exact ((((((Below.refl _ w3).setCell (by simp; omega) _).setCell (by simp; omega) _).setCell (by simp; omega) _).setCell (by simp; omega) _).setCell (by simp; omega) _).setCell (by simp; omega) _
          rw [hW7]
          clear hput hW7
          replace hput7 := Aside0.mk hput7
          go_wp2
          go_roundw
          case rel =>
            refine ⟨i + 1, by omega, by simp, hput7.out.1, (hput7.out.2.1 _ (by omega)).trans hbx6.out, ((hput7.out.2.1 _ (by omega)).trans (keep.out w3 hb6 _ hlt10)).trans hbx2.out, (hbl.trans ?_).trans hB7⟩
            refine (hb5.out.mono (by have := hbl.size; omega)).trans (Below.drew (Below.refl _ _) |>.trans (hb6.mono (by have := hbl.size; omega)))
          case measure => simp [intOf]; omega
      · obtain rfl : i = f.f5.length := by omega
        obtain ⟨p0, p1, p2, p3, p4, p5⟩ := cells6 hbx
        obtain ⟨y0, y1, y2, y3, y4, y5⟩ := cells6 hbx2
        have zf : ∀ k, wr.frozen? ⟨W.heap.size + 1, k, none⟩ = false := fun k => by simp [World.frozen?, hbx2]
        replace hbx := Aside0.mk hbx
        replace hbx2 := Aside0.mk hbx2
        replace hst := Aside0.mk hst
        go_wp2
        obtain ⟨W7, hW7⟩ : ∃ W7, ((((((wr.setCell ⟨W.heap.size + 1, 0, none⟩ (.int .i64 f.f0)).setCell ⟨W.heap.size + 1, 1, none⟩ (.int .i64 f.f1)).setCell ⟨W.heap.size + 1, 2, none⟩ (.int .i64 f.f2)).setCell ⟨W.heap.size + 1, 3, none⟩ (.int .i64 f.f3)).setCell ⟨W.heap.size + 1, 4, none⟩ (.int .i64 f.f4)).setCell ⟨W.heap.size + 1, 5, none⟩ (.slice A1 f.f5.length c1)) = W7 := ⟨_, rfl⟩
        have hB7 : Below W.heap.size wr W7 := by
          rw [← hW7]
          exact ((((((Below.refl _ wr).setCell (by simp) _).setCell (by simp) _).setCell (by simp) _).setCell (by simp) _).setCell (by simp) _).setCell (by simp) _
        have hoth7 : ∀ k, k ≠ W.heap.size + 1 → W7.heap[k]? = wr.heap[k]? := fun k hk => by
          rw [← hW7, heap_set_ne _ _ _ _ (by simpa using hk), heap_set_ne _ _ _ _ (by simpa using hk), heap_set_ne _ _ _ _ (by simpa using hk), heap_set_ne _ _ _ _ (by simpa using hk), heap_set_ne _ _ _ _ (by simpa using hk), heap_set_ne _ _ _ _ (by simpa using hk)]
        have hend := hst.out.step (w2 := W7) (fun k _ hk => hoth7 k (by omega))
        refine bodyPost_ret (v := .agg #[.int .i64 f.f0, .int .i64 f.f1, .int .i64 f.f2, .int .i64 f.f3, .int .i64 f.f4, .slice A1 f.f5.length c1]) (by simp [results, Try.results28, go_sem, y0, y1, y2, y3, y4, y5]) rfl ?_
        rw [hW7]
        exact ⟨_, rfl, own_R hend, hbl.trans hB7⟩
theorem own_ok : ∀ f : Form, Short f → OwnOk f := by
  intro f hs
  induction hs with
  | mk f hl _ ih => exact own_step f hl ih
end Go.Proofs.Ytpndiobbogelpaa
