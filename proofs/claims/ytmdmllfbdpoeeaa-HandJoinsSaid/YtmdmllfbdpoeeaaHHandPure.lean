/- Bytes with their places, told one by one to a machine that puts messages together: plain laws of lists; no condition beyond the lemmas' own. -/
import Derived.Test.YtmdmllfbdpoeeaaProg
namespace Go.Proofs.Ytmdmllfbdpoeeaa

/-- The types of messages that there are. -/
def msgKnown (c : Int) : Bool := [1, 2, 4, 5, 8, 11, 13, 15, 20, 24].contains c
/-- What has come of a message that is begun, each byte with its place; or what was wrong, and where. -/
structure HSt where
  most : Int
  data : List Int
  places : List Int
  err : Int
  eat : Int
/-- How many bytes a message has, by its head. -/
def needOf (d : List Int) : Int := 4 + d.getD 1 0 * 65536 + d.getD 2 0 * 256 + d.getD 3 0
/-- One byte more. -/
def HSt.step (s : HSt) (c p : Int) : HSt × List (List Int × List Int) :=
  if (s.data ++ [c]).length < 4 then ({ s with data := s.data ++ [c], places := s.places ++ [p] }, [])
  else if (s.data ++ [c]).length = 4 ∧ msgKnown ((s.data ++ [c]).getD 0 0) = false then ({ s with data := [], places := [], err := 18, eat := (s.places ++ [p]).getD 0 0 }, [])
  else if (s.data ++ [c]).length = 4 ∧ s.most < needOf (s.data ++ [c]) then ({ s with data := [], places := [], err := 12, eat := (s.places ++ [p]).getD 0 0 }, [])
  else if ((s.data ++ [c]).length : Int) = needOf (s.data ++ [c]) then ({ s with data := [], places := [] }, [(s.data ++ [c], s.places ++ [p])])
  else ({ s with data := s.data ++ [c], places := s.places ++ [p] }, [])
/-- All bytes, one by one, up to what is wrong. -/
def feed : HSt → List (Int × Int) → HSt × List (List Int × List Int)
  | s, [] => (s, [])
  | s, (c, p) :: r => if s.err = 0 then ((feed (s.step c p).1 r).1, (s.step c p).2 ++ (feed (s.step c p).1 r).2) else (s, [])
theorem feed_err {s : HSt} (h : s.err ≠ 0) : ∀ l, feed s l = (s, [])
  | [] => rfl
  | (c, p) :: r => by rw [feed, if_neg h]
theorem feed_append : ∀ (xs : List (Int × Int)) (s : HSt) (ys : List (Int × Int)), feed s (xs ++ ys) = ((feed (feed s xs).1 ys).1, (feed s xs).2 ++ (feed (feed s xs).1 ys).2)
  | [], s, ys => by simp [feed]
  | (c, p) :: r, s, ys => by
    by_cases h : s.err = 0
    · rw [List.cons_append, feed, if_pos h, feed, if_pos h, feed_append r]
      simp
    · rw [feed_err h, feed_err h]
      simp only [feed_err h]
      rfl
/-- Bytes from a place on. -/
def zipAt : List Int → Int → List (Int × Int)
  | [], _ => []
  | c :: r, a => (c, a) :: zipAt r (a + 1)
def upFrom : Int → Nat → List Int
  | _, 0 => []
  | a, n + 1 => a :: upFrom (a + 1) n
theorem upFrom_length : ∀ (n : Nat) (a : Int), (upFrom a n).length = n
  | 0, _ => rfl
  | n + 1, a => by rw [upFrom, List.length_cons, upFrom_length n]
theorem upFrom_add : ∀ (n m : Nat) (a : Int), upFrom a (n + m) = upFrom a n ++ upFrom (a + n) m
  | 0, m, a => by simp [upFrom]
  | n + 1, m, a => by
    rw [show n + 1 + m = (n + m) + 1 by omega, upFrom, upFrom_add n m (a + 1), upFrom, List.cons_append, show a + 1 + (n : Int) = a + ((n + 1 : Nat) : Int) by omega]
theorem zipAt_append : ∀ (xs ys : List Int) (a : Int), zipAt (xs ++ ys) a = zipAt xs a ++ zipAt ys (a + xs.length)
  | [], ys, a => by simp [zipAt]
  | x :: r, ys, a => by
    rw [List.cons_append, zipAt, zipAt_append r ys (a + 1), zipAt, List.cons_append, List.length_cons, show a + 1 + (r.length : Int) = a + ((r.length + 1 : Nat) : Int) by omega]
theorem getD_app {l m : List Int} {i : Nat} {z : Int} (h : i < l.length) : (l ++ m).getD i z = l.getD i z := by
  rw [List.getD_eq_getElem?_getD, List.getD_eq_getElem?_getD, List.getElem?_append_left h]
theorem getD_at {l m : List Int} {z : Int} : (l ++ m).getD l.length z = m.getD 0 z := by
  rw [List.getD_eq_getElem?_getD, List.getD_eq_getElem?_getD, List.getElem?_append_right (Nat.le_refl _), Nat.sub_self]
theorem needOf_append {d : List Int} (h : 4 ≤ d.length) (e : List Int) : needOf (d ++ e) = needOf d := by
  unfold needOf
  rw [getD_app (by omega), getD_app (by omega), getD_app (by omega)]
theorem upFrom_snoc (a : Int) (n : Nat) : upFrom a (n + 1) = upFrom a n ++ [a + n] := by rw [upFrom_add]; rfl
/-- Bytes that make nothing whole. -/
theorem feed_quiet : ∀ (xs : List Int) (s : HSt) (a : Int), s.err = 0 → (s.data.length + xs.length < 4 ∨ (4 ≤ s.data.length ∧ ((s.data.length + xs.length : Nat) : Int) < needOf s.data)) →
    feed s (zipAt xs a) = ({ s with data := s.data ++ xs, places := s.places ++ upFrom a xs.length }, [])
  | [], s, a, _, _ => by simp [zipAt, feed, upFrom]
  | x :: r, s, a, h, hb => by
    have hst : s.step x a = ({ s with data := s.data ++ [x], places := s.places ++ [a] }, []) := by
      unfold HSt.step
      rw [List.length_append, List.length_singleton]
      rcases hb with hb | ⟨hb, hc⟩
      · rw [List.length_cons] at hb
        rw [if_pos (by omega)]
      · rw [List.length_cons] at hc
        rw [if_neg (by omega), if_neg (by omega), if_neg (by omega), needOf_append hb, if_neg (by omega)]
    rw [zipAt, feed, if_pos h, hst]
    have hq := feed_quiet r { s with data := s.data ++ [x], places := s.places ++ [a] } (a + 1) h ?_
    · rw [hq]
      simp only [List.nil_append, List.append_assoc, List.singleton_append, upFrom, List.length_cons]
    · simp only [List.length_append, List.length_singleton]
      rw [List.length_cons] at hb
      rcases hb with hb | ⟨hb, hc⟩
      · exact .inl (by omega)
      · refine .inr ⟨by omega, ?_⟩
        rw [needOf_append hb]
        omega
/-- Bytes of which the last one makes something whole. -/
theorem feed_last {xs : List Int} {s : HSt} {a : Int} (h : s.err = 0) (hx : xs ≠ []) (hb : s.data.length + xs.length = 4 ∨ (4 ≤ s.data.length ∧ ((s.data.length + xs.length : Nat) : Int) = needOf s.data)) :
    feed s (zipAt xs a) = HSt.step { s with data := s.data ++ xs.dropLast, places := s.places ++ upFrom a (xs.length - 1) } (xs.getLast hx) (a + ((xs.length - 1 : Nat) : Int)) := by
  have hl : 0 < xs.length := List.length_pos_iff.2 hx
  conv => lhs; rw [← List.dropLast_concat_getLast hx]
  rw [zipAt_append, feed_append, feed_quiet xs.dropLast s a h ?_]
  · simp only [zipAt, List.length_dropLast, List.nil_append]
    rw [feed, if_pos (by exact h)]
    simp only [feed, List.append_nil]
  · rw [List.length_dropLast]
    rcases hb with hb | ⟨hb, hc⟩
    · exact .inl (by omega)
    · exact .inr ⟨hb, by omega⟩
theorem getD_snoc_init {l : List Int} (hx : l ≠ []) : l.dropLast ++ [l.getLast hx] = l := List.dropLast_concat_getLast hx
/-- The bytes that make a head whole. -/
theorem feed_head {xs : List Int} {s : HSt} {a : Int} (h : s.err = 0) (hx : xs ≠ []) (hb : s.data.length + xs.length = 4) :
    feed s (zipAt xs a) = (if msgKnown ((s.data ++ xs).getD 0 0) = false then ({ s with data := [], places := [], err := 18, eat := (s.places ++ upFrom a xs.length).getD 0 0 }, [])
      else if s.most < needOf (s.data ++ xs) then ({ s with data := [], places := [], err := 12, eat := (s.places ++ upFrom a xs.length).getD 0 0 }, [])
      else if needOf (s.data ++ xs) = 4 then ({ s with data := [], places := [] }, [(s.data ++ xs, s.places ++ upFrom a xs.length)])
      else ({ s with data := s.data ++ xs, places := s.places ++ upFrom a xs.length }, [])) := by
  have hl : 0 < xs.length := List.length_pos_iff.2 hx
  rw [feed_last h hx (.inl hb)]
  have e1 : s.data ++ xs.dropLast ++ [xs.getLast hx] = s.data ++ xs := by rw [List.append_assoc, getD_snoc_init]
  have e2 : s.places ++ upFrom a (xs.length - 1) ++ [a + ((xs.length - 1 : Nat) : Int)] = s.places ++ upFrom a xs.length := by
    rw [List.append_assoc, ← upFrom_snoc, show xs.length - 1 + 1 = xs.length by omega]
  unfold HSt.step
  simp only [e1, e2]
  have e3 : (s.data ++ xs).length = 4 := by rw [List.length_append, hb]
  rw [e3, if_neg (by omega)]
  by_cases k : msgKnown ((s.data ++ xs).getD 0 0) = false
  · rw [if_pos ⟨rfl, k⟩, if_pos k]
  · rw [if_neg (fun e => k e.2), if_neg k]
    by_cases m : s.most < needOf (s.data ++ xs)
    · rw [if_pos ⟨rfl, m⟩, if_pos m]
    · rw [if_neg (fun e => m e.2), if_neg m]
      by_cases q : needOf (s.data ++ xs) = 4
      · rw [if_pos (by rw [q]; rfl), if_pos q]
      · rw [if_neg (fun e => q e.symm), if_neg q]
/-- The bytes that make a message whole. -/
theorem feed_body {xs : List Int} {s : HSt} {a : Int} (h : s.err = 0) (hx : xs ≠ []) (h4 : 4 ≤ s.data.length) (hb : ((s.data.length + xs.length : Nat) : Int) = needOf s.data) :
    feed s (zipAt xs a) = ({ s with data := [], places := [] }, [(s.data ++ xs, s.places ++ upFrom a xs.length)]) := by
  have hl : 0 < xs.length := List.length_pos_iff.2 hx
  rw [feed_last h hx (.inr ⟨h4, hb⟩)]
  have e1 : s.data ++ xs.dropLast ++ [xs.getLast hx] = s.data ++ xs := by rw [List.append_assoc, getD_snoc_init]
  have e2 : s.places ++ upFrom a (xs.length - 1) ++ [a + ((xs.length - 1 : Nat) : Int)] = s.places ++ upFrom a xs.length := by
    rw [List.append_assoc, ← upFrom_snoc, show xs.length - 1 + 1 = xs.length by omega]
  unfold HSt.step
  simp only [e1, e2]
  rw [List.length_append, if_neg (by omega), if_neg (by omega), if_neg (by omega), needOf_append h4, if_pos hb]
/-- Where bytes stood, told by the first ones of those that stand one behind the other. -/
def segsFrom : Option Int → Nat → List Int → List (Int × Int)
  | _, _, [] => []
  | q, i, p :: r => if q = some (p - 1) then segsFrom (some p) (i + 1) r else ((i : Int), p) :: segsFrom (some p) (i + 1) r
def segsOf (ps : List Int) : List (Int × Int) := segsFrom none 0 ps
def lastOr (q : Option Int) (ps : List Int) : Option Int := ps.foldl (fun _ p => some p) q
theorem segsFrom_append : ∀ (ps qs : List Int) (q : Option Int) (i : Nat), segsFrom q i (ps ++ qs) = segsFrom q i ps ++ segsFrom (lastOr q ps) (i + ps.length) qs
  | [], qs, q, i => by simp [segsFrom, lastOr]
  | p :: r, qs, q, i => by
    rw [List.cons_append, segsFrom, segsFrom, segsFrom_append r qs (some p) (i + 1), List.length_cons, show i + 1 + r.length = i + (r.length + 1) by omega]
    have : lastOr (some p) r = lastOr q (p :: r) := rfl
    rw [this]
    split <;> rfl
theorem segsFrom_up : ∀ (n : Nat) (a : Int) (i : Nat), segsFrom (some (a - 1)) i (upFrom a n) = []
  | 0, _, _ => rfl
  | n + 1, a, i => by
    rw [upFrom, segsFrom, if_pos rfl]
    have := segsFrom_up n (a + 1) (i + 1)
    rwa [show a + 1 - 1 = a by omega] at this
theorem lastOr_snoc (q : Option Int) (ps : List Int) (p : Int) : lastOr q (ps ++ [p]) = some p := by simp [lastOr]
theorem lastOr_nil : lastOr none [] = none := rfl
/-- A piece more. -/
theorem segsOf_piece (ps : List Int) (a : Int) (n : Nat) (hn : 0 < n) : segsOf (ps ++ upFrom a n) = segsOf ps ++ (if lastOr none ps = some (a - 1) then [] else [((ps.length : Int), a)]) := by
  unfold segsOf
  rw [segsFrom_append, Nat.zero_add]
  obtain ⟨m, rfl⟩ : ∃ m, n = m + 1 := ⟨n - 1, by omega⟩
  rw [upFrom, segsFrom]
  have := segsFrom_up m (a + 1) (ps.length + 1)
  rw [show a + 1 - 1 = a by omega] at this
  rw [this]
theorem segsOf_snoc (ps : List Int) (p : Int) : segsOf (ps ++ [p]) = segsOf ps ++ (if lastOr none ps = some (p - 1) then [] else [((ps.length : Int), p)]) := segsOf_piece ps p 1 (by decide)
theorem snoc_ind {P : List Int → Prop} (h0 : P []) (h1 : ∀ l x, P l → P (l ++ [x])) (l : List Int) : P l := by
  have : ∀ n (l : List Int), l.length = n → P l := by
    intro n
    induction n with
    | zero => intro l hl; rw [List.length_eq_zero_iff.1 hl]; exact h0
    | succ n ih =>
      intro l hl
      have hx : l ≠ [] := fun e => by rw [e] at hl; cases hl
      rw [← List.dropLast_concat_getLast hx]
      exact h1 _ _ (ih _ (by rw [List.length_dropLast]; omega))
  exact this _ l rfl
/-- Every byte's place, by those. -/
def placeSegs (l : List (Int × Int)) (i : Int) : Int := match l.reverse.find? (fun s => decide (s.1 ≤ i)) with
  | some s => s.2 + i - s.1
  | none => 0
theorem segs_len (ps : List Int) : (segsOf ps).length ≤ ps.length ∧ ∀ s ∈ segsOf ps, 0 ≤ s.1 ∧ s.1 < ps.length := by
  induction ps using snoc_ind with
  | h0 => exact ⟨by decide, fun s hs => by cases hs⟩
  | h1 ps p ih =>
    obtain ⟨ih1, ih2⟩ := ih
    rw [segsOf_snoc, List.length_append, List.length_append, List.length_singleton]
    refine ⟨by split <;> simp <;> omega, fun s hs => ?_⟩
    rcases List.mem_append.1 hs with hs | hs
    · have := ih2 s hs
      omega
    · split at hs
      · cases hs
      · obtain rfl := List.mem_singleton.1 hs
        show (0 : Int) ≤ (ps.length : Int) ∧ (ps.length : Int) < _
        omega
theorem segs_at (ps : List Int) : ∀ i : Nat, i < ps.length → placeSegs (segsOf ps) (i : Int) = ps.getD i 0 := by
  induction ps using snoc_ind with
  | h0 => intro i hi; cases hi
  | h1 ps p ih =>
    intro i hi
    rw [List.length_append, List.length_singleton] at hi
    have hall := (segs_len ps).2
    by_cases hlt : i < ps.length
    · rw [getD_app hlt, ← ih i hlt, segsOf_snoc]
      split
      · rw [List.append_nil]
      · unfold placeSegs
        rw [List.reverse_append, List.reverse_singleton, List.singleton_append, List.find?_cons_of_neg]
        simp
        omega
    · obtain rfl : i = ps.length := by omega
      rw [getD_at, segsOf_snoc]
      show _ = p
      split
      · rename_i he
        rw [List.append_nil]
        have hne : ps ≠ [] := fun e => by rw [e] at he; cases he
        have hl : 0 < ps.length := List.length_pos_iff.2 hne
        have hq : ps.getD (ps.length - 1) 0 = p - 1 := by
          rw [← List.dropLast_concat_getLast hne, lastOr_snoc] at he
          have := Option.some.inj he
          rw [← this, List.getLast_eq_getElem, List.getD_eq_getElem?_getD, List.getElem?_eq_getElem (by omega)]
          rfl
        have h1 := ih (ps.length - 1) (by omega)
        rw [hq] at h1
        unfold placeSegs at h1 ⊢
        cases hr : (segsOf ps).reverse with
        | nil =>
          exfalso
          have h0 : segsOf ps = [] := by simpa using hr
          obtain ⟨x, r, rfl⟩ := List.exists_cons_of_ne_nil hne
          unfold segsOf segsFrom at h0
          simp at h0
        | cons s r =>
          have hs := hall s (by rw [← List.mem_reverse, hr]; exact List.mem_cons_self)
          rw [hr, List.find?_cons_of_pos (by simp; omega)] at h1
          rw [List.find?_cons_of_pos (by simp; omega)]
          simp only at h1 ⊢
          omega
      · unfold placeSegs
        rw [List.reverse_append, List.reverse_singleton, List.singleton_append, List.find?_cons_of_pos (by simp)]
        simp
end Go.Proofs.Ytmdmllfbdpoeeaa
