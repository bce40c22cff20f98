/- What the machine of messages says of messages, one behind the other: plain laws of lists; no condition beyond the lemmas' own. -/
import Derived.Test.YtmdmllfbdpoeeaaHHandLaws
import Derived.Test.YtmdmllfbdpoeeaaHHandE
namespace Go.Proofs.Ytmdmllfbdpoeeaa

def frame (b : List Int) : List Int := [20, 0, 0, (b.length : Int)] ++ b
def frames (bs : List (List Int)) : List Int := (bs.map frame).flatten
def outsOf : List (List Int) → Int → List (List Int × List Int)
  | [], _ => []
  | b :: r, a => (frame b, upFrom a (frame b).length) :: outsOf r (a + (frame b).length)
abbrev hand3 : HSt := ⟨3000, [], [], 0, 0⟩
theorem frame_len (b : List Int) : (frame b).length = 4 + b.length := by unfold frame; rw [List.length_append]; rfl
theorem feed_frame (b : List Int) (a : Int) (h : b.length ≤ 255) : feed hand3 (zipAt (frame b) a) = (hand3, [(frame b, upFrom a (frame b).length)]) := by
  have hn : needOf [20, 0, 0, (b.length : Int)] = 4 + b.length := by unfold needOf; simp
  have hh := feed_head (xs := [20, 0, 0, (b.length : Int)]) (s := hand3) (a := a) rfl (by simp) rfl
  rw [show hand3.data ++ [20, 0, 0, (b.length : Int)] = [20, 0, 0, (b.length : Int)] from rfl, hn, if_neg (by simp [msgKnown]), if_neg (by show ¬ (3000 : Int) < _; omega)] at hh
  by_cases h0 : b = []
  · subst h0
    rw [if_pos (by simp)] at hh
    exact hh
  · have hb : 0 < b.length := List.length_pos_iff.2 h0
    rw [if_neg (by omega)] at hh
    unfold frame
    rw [zipAt_append, feed_append, hh]
    have hq := feed_body (xs := b) (s := { hand3 with data := [20, 0, 0, (b.length : Int)], places := hand3.places ++ upFrom a [20, 0, 0, (b.length : Int)].length }) (a := a + ([20, 0, 0, (b.length : Int)].length : Nat)) rfl h0 (by show 4 ≤ 4; decide) (by show ((4 + b.length : Nat) : Int) = needOf [20, 0, 0, (b.length : Int)]; rw [hn]; omega)
    rw [hq]
    refine Prod.ext rfl ?_
    show [([20, 0, 0, (b.length : Int)] ++ b, ([] ++ upFrom a 4) ++ upFrom (a + (4 : Nat)) b.length)] = _
    rw [List.nil_append, ← upFrom_add, List.length_append]
    rfl
theorem frames_cons (b : List Int) (r : List (List Int)) : frames (b :: r) = frame b ++ frames r := rfl
theorem frames_snoc (r : List (List Int)) (b : List Int) : frames (r ++ [b]) = frames r ++ frame b := by
  unfold frames
  rw [List.map_append, List.flatten_append]
  simp
theorem feed_frames : ∀ (bs : List (List Int)) (a : Int), (∀ b ∈ bs, b.length ≤ 255) → feed hand3 (zipAt (frames bs) a) = (hand3, outsOf bs a)
  | [], a, _ => rfl
  | b :: r, a, h => by
    rw [frames_cons, zipAt_append, feed_append, feed_frame b a (h b List.mem_cons_self), feed_frames r _ (fun x hx => h x (List.mem_cons_of_mem _ hx))]
    rfl
theorem outsOf_length : ∀ (bs : List (List Int)) (a : Int), (outsOf bs a).length = bs.length
  | [], _ => rfl
  | b :: r, a => by rw [outsOf, List.length_cons, outsOf_length r, List.length_cons]
theorem outsOf_get : ∀ (bs : List (List Int)) (a : Int) (j : Nat) (b : List Int), bs[j]? = some b → (outsOf bs a)[j]? = some (frame b, upFrom (a + (frames (bs.take j)).length) (frame b).length)
  | [], _, _, _, h => by simp at h
  | y :: r, a, 0, b, h => by
    obtain rfl : y = b := by simpa using h
    simp [outsOf, frames]
  | y :: r, a, j + 1, b, h => by
    rw [outsOf, List.getElem?_cons_succ, outsOf_get r _ j b (by simpa using h), List.take_succ_cons, frames_cons, List.length_append, show a + ((frame y).length : Int) + ((frames (r.take j)).length : Int) = a + (((frame y).length + (frames (r.take j)).length : Nat) : Int) by omega]
theorem segL_up (a : Int) (n : Nat) (h : 0 < n) : segL (upFrom a n) = [⟨0, a⟩] := by
  have := segsOf_piece [] a n h
  rw [List.nil_append, lastOr_nil, if_neg (by simp)] at this
  unfold segL
  rw [this]
  rfl
theorem place_up (a : Int) (n : Nat) (h : 0 < n) (i : Int) (h0 : 0 ≤ i) (h1 : i ≤ n) : handPlace n (segL (upFrom a n)) i = a + i := by
  rw [segL_up a n h]
  have hp : ∀ j : Int, 0 ≤ j → placeS [⟨0, a⟩] j = a + j := fun j hj => by
    have := placeS_snoc [] ⟨0, a⟩ j
    rw [List.nil_append, if_pos hj] at this
    rw [this]
    show a + j - 0 = _
    omega
  unfold handPlace
  by_cases g0 : i ≤ 0
  · rw [if_pos g0, hp 0 (Int.le_refl 0)]; omega
  · rw [if_neg g0]
    by_cases g1 : i < n
    · rw [if_pos g1, hp i h0]
    · rw [if_neg g1, hp _ (by omega)]; omega
theorem frames_take (bs : List (List Int)) (j : Nat) (b : List Int) (h : bs[j]? = some b) : frames (bs.take (j + 1)) = frames (bs.take j) ++ frame b := by
  rw [List.take_add_one, h]
  exact frames_snoc _ _
theorem frames_split (bs : List (List Int)) (j : Nat) : frames bs = frames (bs.take j) ++ frames (bs.drop j) := by
  unfold frames
  rw [← List.flatten_append, ← List.map_append, List.take_append_drop]
/-- The piece of all bytes that one message is. -/
theorem frames_cut (bs : List (List Int)) (j : Nat) (b : List Int) (h : bs[j]? = some b) : ((frames bs).drop (frames (bs.take j)).length).take (frame b).length = frame b := by
  obtain ⟨hj, e⟩ := List.getElem?_eq_some_iff.1 h
  rw [frames_split bs j, List.drop_left, List.drop_eq_getElem_cons hj, e, frames_cons, List.take_left]
theorem frames_le (bs : List (List Int)) (h : ∀ b ∈ bs, b.length ≤ 255) : (frames bs).length ≤ bs.length * 259 := by
  induction bs with
  | nil => simp [frames]
  | cons b r ih =>
    rw [frames_cons, List.length_append, frame_len, List.length_cons]
    have := ih (fun x hx => h x (List.mem_cons_of_mem _ hx))
    have := h b List.mem_cons_self
    omega
theorem frames_byte (bs : List (List Int)) (h : ∀ b ∈ bs, b.length ≤ 255) (hb : ∀ b ∈ bs, ∀ x ∈ b, 0 ≤ x ∧ x ≤ 255) : ∀ x ∈ frames bs, 0 ≤ x ∧ x ≤ 255 := by
  intro x hx
  obtain ⟨f, hf, hx⟩ := List.mem_flatten.1 hx
  obtain ⟨b, hm, rfl⟩ := List.mem_map.1 hf
  have hl := h b hm
  rcases List.mem_append.1 hx with hx | hx
  · simp at hx
    omega
  · exact hb b hm x hx
end Go.Proofs.Ytmdmllfbdpoeeaa
