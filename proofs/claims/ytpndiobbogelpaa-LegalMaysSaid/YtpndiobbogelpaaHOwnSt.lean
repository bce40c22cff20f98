/- A row of forms whose first ones have been made anew while the rest are still shared: what a store of one more does. Plain, no program; no condition beyond the lemmas' own. -/
import Derived.Test.YtpndiobbogelpaaHShapeC
namespace Go.Proofs.Ytpndiobbogelpaa
open Go Go.RowKit Go.Maps Go.Proofs.Hand Go.Proofs.YtpndiobbogelpaaW.PrintWords Go.Proofs.YtpndiobbogelpaaW.PrintLast Go.Proofs.YtpndiobbogelpaaW.PrintMore
set_option maxRecDepth 100000

def chunk (inner : List Value) (j : Nat) : List Value := (inner.drop (j * 6)).take 6
def okM (B : Nat) (v : Value) (k : Nat) : Prop := B ≤ k ∧ some k ≠ v.ownBlock
def okF (W : World) (B : Nat) (v : Value) (k : Nat) : Prop := (k < W.heap.size ∨ B ≤ k) ∧ some k ≠ v.ownBlock
/-- Of the row v the first i elements are made, the others shared. -/
def OwnSt (l : List Form) (W : World) (B : Nat) (v : Value) (i : Nat) (wr : World) : Prop :=
  ∃ inner, wr.ownsRow B 53 6 v l.length inner ∧ (∀ (j : Nat) (x : Form), l[j]? = some x → j < i → kForm.M wr B (okM B v) x (chunk inner j)) ∧ (∀ (j : Nat) (x : Form), l[j]? = some x → i ≤ j → Kd.FK kForm wr (okF W B v) x (chunk inner j))
theorem OwnSt.step {l : List Form} {W : World} {B : Nat} {v : Value} {i : Nat} {wr w2 : World} (h : OwnSt l W B v i wr) (hk : ∀ k, k < wr.heap.size → (k < W.heap.size ∨ B ≤ k) → w2.heap[k]? = wr.heap[k]?) : OwnSt l W B v i w2 := by
  obtain ⟨inner, h1, h2, h3⟩ := h
  refine ⟨inner, own_move h1 (fun k hk' => hk k (own_lt h1 k hk') (.inr (own_base h1 k hk'))), fun j x hx hj => Kd.M_step (h2 j x hx hj) (fun k hok hlt => hk k hlt (.inr hok.1)), fun j x hx hj => Kd.FK_step (h3 j x hx hj) (fun k hok hlt => hk k hlt hok.1)⟩
theorem chunk_splice {inner cs : List Value} {i n : Nat} (hi : i < n) (hl : inner.length = n * 6) (hc : cs.length = 6) (j : Nat) (hj : j < n) :
    chunk (inner.take (i * 6) ++ cs ++ inner.drop (i * 6 + 6)) j = if j = i then cs else chunk inner j := by
  have hb : i * 6 + 6 ≤ n * 6 := by have := Nat.mul_le_mul_right 6 (show i + 1 ≤ n by omega); omega
  have hbj : j * 6 + 6 ≤ n * 6 := by have := Nat.mul_le_mul_right 6 (show j + 1 ≤ n by omega); omega
  unfold chunk
  apply List.ext_getElem?
  intro q
  by_cases hq : q < 6
  · rw [List.getElem?_take, if_pos hq, List.getElem?_drop]
    have ht : (inner.take (i * 6)).length = i * 6 := by rw [List.length_take]; omega
    split
    · rename_i e
      subst e
      rw [List.append_assoc, List.getElem?_append_right (by omega), ht, List.getElem?_append_left (by omega)]
      congr 1
      omega
    · rename_i hne
      rw [List.getElem?_take, if_pos hq, List.getElem?_drop]
      rcases Nat.lt_or_gt_of_ne hne with h | h
      · have := Nat.mul_le_mul_right 6 (show j + 1 ≤ i by omega)
        rw [List.append_assoc, List.getElem?_append_left (by omega), List.getElem?_take, if_pos (by omega)]
      · have := Nat.mul_le_mul_right 6 (show i + 1 ≤ j by omega)
        rw [List.getElem?_append_right (by simp only [List.length_append]; omega), List.getElem?_drop]
        congr 1
        simp only [List.length_append]
        omega
  · rw [List.getElem?_eq_none (by simp; omega), List.getElem?_eq_none]
    split
    · omega
    · simp; omega
theorem OwnSt.put {l : List Form} {W : World} {B g c : Nat} {i : Nat} {wr : World} {x : Form} {cs : List Value} (h : OwnSt l W B (.slice (some ⟨g, 0, none⟩) l.length c) i wr) (hx : l[i]? = some x) (hM : kForm.M wr B (okM B (.slice (some ⟨g, 0, none⟩) l.length c)) x cs) :
    OwnSt l W B (.slice (some ⟨g, 0, none⟩) l.length c) (i + 1) (wr.setCells g (i * 6) cs) ∧ (∀ k, k ≠ g → (wr.setCells g (i * 6) cs).heap[k]? = wr.heap[k]?) ∧ (wr.setCells g (i * 6) cs).heap.size = wr.heap.size := by
  obtain ⟨inner, h1, h2, h3⟩ := h
  have hcs : cs.length = 6 := kForm.K_len (kForm.K_of_M hM)
  have hil := (List.getElem?_eq_some_iff.1 hx).1
  have hfar : ∀ k, k ≠ g → (wr.setCells g (i * 6) cs).heap[k]? = wr.heap[k]? := fun k hk => setCells_far cs _ k hk
  refine ⟨?_, hfar, (setCells_same g cs (i * 6) wr).2.2.2⟩
  obtain ⟨hin, hcase⟩ := h1
  rcases hcase with ⟨e, _⟩ | ⟨g', cap, cur, e, hg, hh, hle, hmax, hsz, htake⟩
  · cases e
  simp only [Value.slice.injEq, Option.some.injEq, Addr.mk.injEq, true_and, and_true] at e
  obtain ⟨rfl, rfl⟩ := e
  have hb : i * 6 + 6 ≤ l.length * 6 := by have := Nat.mul_le_mul_right 6 (show i + 1 ≤ l.length by omega); omega
  have hb2 : l.length * 6 ≤ cur.size := by rw [hsz]; exact Nat.mul_le_mul_right 6 hle
  obtain ⟨cur', k1, k2, k3⟩ := setCells_row cs (i * 6) wr cur hh (by omega)
  have hown : ∀ k : Nat, okM B (.slice (some ⟨g, 0, none⟩) l.length c) k → k ≠ g := fun k hk e => hk.2 (by rw [e]; rfl)
  have hownF : ∀ k : Nat, okF W B (.slice (some ⟨g, 0, none⟩) l.length c) k → k ≠ g := fun k hk e => hk.2 (by rw [e]; rfl)
  refine ⟨inner.take (i * 6) ++ cs ++ inner.drop (i * 6 + 6), ⟨?_, .inr ⟨g, c, cur', rfl, hg, k1, hle, hmax, by rw [k2]; exact hsz, ?_⟩⟩, fun j y hy hj => ?_, fun j y hy hj => ?_⟩
  · simp only [List.length_append, List.length_take, List.length_drop]; omega
  · have hl1 : (cur.toList.take (i * 6) ++ cs).length = i * 6 + 6 := by rw [List.length_append, List.length_take, Array.length_toList]; omega
    rw [k3, hcs, ← htake, List.take_append, List.take_of_length_le (by omega), hl1, List.take_take, Nat.min_eq_left (by omega), List.drop_take]
  · have hjl := (List.getElem?_eq_some_iff.1 hy).1
    rw [chunk_splice hil hin hcs j hjl]
    split
    · rename_i e
      subst e
      rw [hx] at hy
      obtain rfl := Option.some.inj hy
      exact Kd.M_step hM (fun k hk _ => hfar k (hown k hk))
    · exact Kd.M_step (h2 j y hy (by omega)) (fun k hk _ => hfar k (hown k hk))
  · have hjl := (List.getElem?_eq_some_iff.1 hy).1
    rw [chunk_splice hil hin hcs j hjl, if_neg (by omega)]
    exact Kd.FK_step (h3 j y hy (by omega)) (fun k hk _ => hfar k (hownF k hk))
theorem own_room {l : List Form} {W wr : World} {B g c i : Nat} (h : OwnSt l W B (.slice (some ⟨g, 0, none⟩) l.length c) i wr) {j : Nat} (hj : j < l.length) : ∃ cur : Array Value, wr.heap[g]? = some (.cells cur 53 (0, 0)) ∧ j * 6 + 6 ≤ cur.size := by
  obtain ⟨inner, ⟨_, hcase⟩, _⟩ := h
  rcases hcase with ⟨e, _⟩ | ⟨g', cap, cur, e, hg, hh, hle, hmax, hsz, htake⟩
  · cases e
  simp only [Value.slice.injEq, Option.some.injEq, Addr.mk.injEq, true_and, and_true] at e
  obtain ⟨rfl, rfl⟩ := e
  have := Nat.mul_le_mul_right 6 (show j + 1 ≤ c by omega)
  exact ⟨cur, hh, by omega⟩
theorem cell_room {wr : World} {g : Nat} {cur : Array Value} (h : wr.heap[g]? = some (.cells cur 53 (0, 0))) {k : Nat} (hk : k < cur.size) : ∃ u, wr.cell? ⟨g, k, none⟩ = some u :=
  ⟨cur[k], by simp [World.cell?, h, hk]⟩
/-- When all are made the row is one's own. -/
theorem own_R {l : List Form} {W wr : World} {v : Value} (h : OwnSt l W (W.heap.size + 2) v l.length wr) : Kd.R kForm 53 wr W.heap.size (fun k => W.heap.size ≤ k) v l := by
  obtain ⟨inner, h1, h2, _⟩ := h
  refine ⟨fun k hk => by have := own_base h1 k hk; omega, inner, own_weaken h1 (by omega), h1.1, fun j x hx => ?_⟩
  have hj := (List.getElem?_eq_some_iff.1 hx).1
  exact kForm.M_lower (by omega) (kForm.M_mono (fun k hk => ⟨by have := hk.1; omega, hk.2⟩) (h2 j x hx hj))
end Go.Proofs.Ytpndiobbogelpaa
