/- What the machine of messages says of all bytes that it was told: plain laws of lists; no condition beyond the lemmas' own. -/
import Derived.Test.YtmdmllfbdpoeeaaHHandPure
namespace Go.Proofs.Ytmdmllfbdpoeeaa

/-- What holds of what is held. -/
structure HSt.Ok (s : HSt) : Prop where
  len : s.places.length = s.data.length
  gone : s.err ≠ 0 → s.data = []
  most : 4 ≤ s.most
  few : 4 ≤ s.data.length → (s.data.length : Int) < needOf s.data ∧ needOf s.data ≤ s.most
/-- A message that was found. -/
def MsgOk (most : Int) (m : List Int × List Int) : Prop := m.2.length = m.1.length ∧ 4 ≤ m.1.length ∧ (m.1.length : Int) = needOf m.1 ∧ needOf m.1 ≤ most
theorem step_ok {s : HSt} (h : s.Ok) (he : s.err = 0) (c p : Int) (hc : 0 ≤ c) (hd : ∀ x ∈ s.data, 0 ≤ x) : (s.step c p).1.Ok ∧ (s.step c p).1.most = s.most ∧ (∀ m ∈ (s.step c p).2, MsgOk s.most m) ∧
    ((s.step c p).1.err = 0 → ((s.step c p).2.map (·.1)).flatten ++ (s.step c p).1.data = s.data ++ [c] ∧ ((s.step c p).2.map (·.2)).flatten ++ (s.step c p).1.places = s.places ++ [p]) ∧
    ((s.step c p).1.err ≠ 0 → (s.step c p).2 = [] ∧ (s.step c p).1.eat = (s.places ++ [p]).getD 0 0 ∧ ((s.step c p).1.err = 18 ∨ (s.step c p).1.err = 12)) := by
  have hl : (s.places ++ [p]).length = (s.data ++ [c]).length := by rw [List.length_append, List.length_append, h.len]; rfl
  have hn : 4 ≤ needOf (s.data ++ [c]) := by
    have hb : ∀ i, 0 ≤ (s.data ++ [c]).getD i 0 := fun i => by
      rw [List.getD_eq_getElem?_getD]
      cases hx : (s.data ++ [c])[i]? with
      | none => exact Int.le_refl 0
      | some x =>
        rcases List.mem_append.1 (List.mem_of_getElem? hx) with h1 | h1
        · exact hd x h1
        · rw [List.mem_singleton.1 h1]; exact hc
    have h1 := hb 1
    have h2 := hb 2
    have h3 := hb 3
    unfold needOf
    omega
  have hl2 : (s.data ++ [c]).length = s.data.length + 1 := by rw [List.length_append]; rfl
  have nd : 4 ≤ s.data.length → needOf (s.data ++ [c]) = needOf s.data := fun h4 => needOf_append h4 _
  unfold HSt.step
  generalize hD : s.data ++ [c] = D at *
  generalize hP : s.places ++ [p] = P at *
  split
  · rename_i g0
    refine ⟨⟨hl, fun e => absurd he e, h.most, fun h4 => by have : 4 ≤ D.length := h4; omega⟩, rfl, (fun m hm => by cases hm), fun _ => ⟨rfl, rfl⟩, fun e => absurd he e⟩
  · rename_i g0
    split
    · refine ⟨⟨rfl, fun _ => rfl, h.most, fun h4 => absurd h4 (by show ¬ 4 ≤ 0; decide)⟩, rfl, (fun m hm => by cases hm), fun e => absurd e (by show ¬ (18 : Int) = 0; decide), fun _ => ⟨rfl, rfl, .inl rfl⟩⟩
    · split
      · refine ⟨⟨rfl, fun _ => rfl, h.most, fun h4 => absurd h4 (by show ¬ 4 ≤ 0; decide)⟩, rfl, (fun m hm => by cases hm), fun e => absurd e (by show ¬ (12 : Int) = 0; decide), fun _ => ⟨rfl, rfl, .inr rfl⟩⟩
      · rename_i g1 g2
        have hm : needOf D ≤ s.most := by
          by_cases h4 : D.length = 4
          · exact Int.not_lt.1 (fun e => g2 ⟨h4, e⟩)
          · rw [nd (by omega)]
            exact (h.few (by omega)).2
        split
        · rename_i g3
          refine ⟨⟨rfl, fun e => absurd he e, h.most, fun h4 => absurd h4 (by show ¬ 4 ≤ 0; decide)⟩, rfl, fun m hm2 => ?_, fun _ => ⟨by simp, by simp⟩, fun e => absurd he e⟩
          obtain rfl := List.mem_singleton.1 hm2
          exact ⟨hl, by show 4 ≤ D.length; omega, g3, hm⟩
        · rename_i g3
          refine ⟨⟨hl, fun e => absurd he e, h.most, fun h4 => ⟨?_, hm⟩⟩, rfl, (fun m hm2 => by cases hm2), fun _ => ⟨rfl, rfl⟩, fun e => absurd he e⟩
          show (D.length : Int) < needOf D
          by_cases h5 : D.length = 4
          · omega
          · have := h.few (by omega)
            rw [nd (by omega)] at g3 ⊢
            omega
theorem step_pos {s : HSt} (c p : Int) (hc : 0 ≤ c) (hd : ∀ x ∈ s.data, 0 ≤ x) : ∀ x ∈ (s.step c p).1.data, 0 ≤ x := by
  have hD : ∀ x ∈ s.data ++ [c], 0 ≤ x := fun x hx => by
    rcases List.mem_append.1 hx with h1 | h1
    · exact hd x h1
    · rw [List.mem_singleton.1 h1]; exact hc
  unfold HSt.step
  repeat' split
  all_goals first | exact hD | (intro x hx; cases hx)
/-- All bytes: the messages, one behind the other, and what is held or wrong behind them. -/
theorem feed_all : ∀ (l : List (Int × Int)) (s : HSt), s.Ok → s.err = 0 → (∀ x ∈ l, 0 ≤ x.1) → (∀ x ∈ s.data, 0 ≤ x) →
    (feed s l).1.Ok ∧ (feed s l).1.most = s.most ∧ (∀ m ∈ (feed s l).2, MsgOk s.most m) ∧
    ((feed s l).1.err = 0 → ((feed s l).2.map (·.1)).flatten ++ (feed s l).1.data = s.data ++ l.map (·.1) ∧ ((feed s l).2.map (·.2)).flatten ++ (feed s l).1.places = s.places ++ l.map (·.2)) ∧
    ((feed s l).1.err ≠ 0 → ∃ rd rp, ((feed s l).2.map (·.1)).flatten ++ rd = s.data ++ l.map (·.1) ∧ ((feed s l).2.map (·.2)).flatten ++ rp = s.places ++ l.map (·.2) ∧ rd.length = rp.length ∧ 0 < rp.length ∧ (feed s l).1.eat = rp.getD 0 0 ∧ ((feed s l).1.err = 18 ∨ (feed s l).1.err = 12))
  | [], s, h, he, _, _ => ⟨h, rfl, (fun m hm => by cases hm), fun _ => ⟨by simp [feed], by simp [feed]⟩, fun e => absurd he e⟩
  | (c, p) :: r, s, h, he, hl, hd => by
    have hc : 0 ≤ c := hl (c, p) List.mem_cons_self
    obtain ⟨s1, s2, s3, s4, s5⟩ := step_ok h he c p hc hd
    rw [feed, if_pos he]
    by_cases e1 : (s.step c p).1.err = 0
    · obtain ⟨t1, t2, t3, t4, t5⟩ := feed_all r (s.step c p).1 s1 e1 (fun x hx => hl x (List.mem_cons_of_mem _ hx)) (step_pos c p hc hd)
      obtain ⟨u1, u2⟩ := s4 e1
      refine ⟨t1, t2.trans s2, fun m hm => ?_, fun e => ?_, fun e => ?_⟩
      · rcases List.mem_append.1 hm with hm | hm
        · exact s3 m hm
        · rw [← s2]; exact t3 m hm
      · obtain ⟨v1, v2⟩ := t4 e
        simp only [List.map_append, List.flatten_append, List.append_assoc, List.map_cons]
        rw [v1, v2, ← List.append_assoc, u1, ← List.append_assoc, u2]
        simp
      · obtain ⟨rd, rp, v1, v2, v3, v4, v5, v6⟩ := t5 e
        refine ⟨rd, rp, ?_, ?_, v3, v4, v5, v6⟩
        · simp only [List.map_append, List.flatten_append, List.append_assoc, List.map_cons]
          rw [v1, ← List.append_assoc, u1]
          simp
        · simp only [List.map_append, List.flatten_append, List.append_assoc, List.map_cons]
          rw [v2, ← List.append_assoc, u2]
          simp
    · rw [feed_err e1]
      obtain ⟨u1, u2, u3⟩ := s5 e1
      rw [u1]
      refine ⟨s1, s2, (fun m hm => by cases hm), fun e => absurd e e1, fun _ => ⟨s.data ++ ((c, p) :: r).map (·.1), s.places ++ ((c, p) :: r).map (·.2), by simp, by simp, ?_, ?_, ?_, u3⟩⟩
      · simp [h.len]
      · rw [List.length_append, List.length_map, List.length_cons]; omega
      · rw [u2]
        cases hp : s.places with
        | nil => rfl
        | cons x y => rfl
theorem zipAt_fst : ∀ (xs : List Int) (a : Int), (zipAt xs a).map (·.1) = xs
  | [], _ => rfl
  | x :: r, a => by rw [zipAt, List.map_cons, zipAt_fst r]
theorem zipAt_snd : ∀ (xs : List Int) (a : Int), (zipAt xs a).map (·.2) = upFrom a xs.length
  | [], _ => rfl
  | x :: r, a => by rw [zipAt, List.map_cons, zipAt_snd r, List.length_cons, upFrom]
theorem upFrom_get : ∀ (n : Nat) (a : Int) (i : Nat), i < n → (upFrom a n).getD i 0 = a + i
  | 0, _, _, h => absurd h (by omega)
  | n + 1, a, 0, _ => by simp [upFrom]
  | n + 1, a, i + 1, h => by
    have := upFrom_get n (a + 1) i (by omega)
    rw [upFrom, List.getD_cons_succ, this]
    omega
/-- Messages that stand one behind the other: each byte's place. -/
theorem upFrom_cut : ∀ (ms : List (List Int × List Int)) (rp : List Int) (a : Int) (n : Nat), (ms.map (·.2)).flatten ++ rp = upFrom a n → (∀ x ∈ ms, x.2.length = x.1.length) → ∀ (j : Nat) (x : List Int × List Int), ms[j]? = some x →
    x.2 = upFrom (a + ((((ms.take j).map (·.1)).flatten.length : Nat) : Int)) x.1.length
  | [], _, _, _, _, _, _, _, hj => by simp at hj
  | y :: r, rp, a, n, h, hm, j, x, hj => by
    have hy := hm y List.mem_cons_self
    rw [List.map_cons, List.flatten_cons, List.append_assoc] at h
    have hl := congrArg List.length h
    rw [List.length_append, upFrom_length] at hl
    rw [show n = y.2.length + (n - y.2.length) by omega, upFrom_add] at h
    obtain ⟨h1, h2⟩ := List.append_inj h (by rw [upFrom_length])
    cases j with
    | zero =>
      obtain rfl : y = x := by simpa using hj
      simpa [← hy] using h1
    | succ j =>
      have := upFrom_cut r rp _ _ h2 (fun z hz => hm z (List.mem_cons_of_mem _ hz)) j x (by simpa using hj)
      rw [this, List.take_succ_cons, List.map_cons, List.flatten_cons, List.length_append, hy]
      congr 1
      omega
/-- What Put's answer is, of bytes that come to a hand that is new. -/
structure WholeOk (m : Int) (l1 : List Int) (R1 : HSt) (R2 : List (List Int × List Int)) : Prop where
  msgs : ∀ (j : Nat) (x : List Int × List Int), R2[j]? = some x → 4 ≤ x.1.length ∧ (x.1.length : Int) ≤ m ∧ x.1.length ≤ l1.length ∧ ((R2.take j).map (·.1)).flatten.length ≤ l1.length ∧ x.2 = upFrom (((((R2.take j).map (·.1)).flatten.length : Nat)) : Int) x.1.length
  pre : (R2.map (·.1)).flatten = l1.take (R2.map (·.1)).flatten.length
  le : (R2.map (·.1)).flatten.length ≤ l1.length
  bad : R1.err ≠ 0 → R1.eat = (((R2.map (·.1)).flatten.length : Nat) : Int) ∧ (R1.err = 18 ∨ R1.err = 12)
  good : R1.err = 0 → (R2.map (·.1)).flatten.length + R1.data.length = l1.length ∧ (R1.data.length : Int) < m
theorem flat_len : ∀ (ms : List (List Int × List Int)), (∀ x ∈ ms, x.2.length = x.1.length) → (ms.map (·.2)).flatten.length = (ms.map (·.1)).flatten.length
  | [], _ => rfl
  | y :: r, h => by
    rw [List.map_cons, List.map_cons, List.flatten_cons, List.flatten_cons, List.length_append, List.length_append, flat_len r (fun z hz => h z (List.mem_cons_of_mem _ hz)), h y List.mem_cons_self]
theorem flat_take (ms : List (List Int × List Int)) (j : Nat) (x : List Int × List Int) (h : ms[j]? = some x) : ((ms.take j).map (·.1)).flatten.length + x.1.length ≤ (ms.map (·.1)).flatten.length := by
  obtain ⟨hj, e⟩ := List.getElem?_eq_some_iff.1 h
  have : ms = ms.take j ++ x :: ms.drop (j + 1) := by
    rw [← e, ← List.drop_eq_getElem_cons hj, List.take_append_drop]
  conv => rhs; rw [this]
  rw [List.map_append, List.flatten_append, List.length_append, List.map_cons, List.flatten_cons, List.length_append]
  omega
theorem whole_ok {m : Int} {l1 : List Int} (m4 : 4 ≤ m) (hby : ∀ x ∈ l1, 0 ≤ x) : WholeOk m l1 (feed ⟨m, [], [], 0, 0⟩ (zipAt l1 0)).1 (feed ⟨m, [], [], 0, 0⟩ (zipAt l1 0)).2 := by
  obtain ⟨t1, t2, t3, t4, t5⟩ := feed_all (zipAt l1 0) ⟨m, [], [], 0, 0⟩ ⟨rfl, fun _ => rfl, m4, fun h4 => absurd h4 (by show ¬ 4 ≤ 0; decide)⟩ rfl (fun x hx => hby x.1 (by have := List.mem_map_of_mem (f := (·.1)) hx; rwa [zipAt_fst] at this)) (fun x hx => by cases hx)
  rw [zipAt_fst, zipAt_snd] at t4 t5
  generalize feed ⟨m, [], [], 0, 0⟩ (zipAt l1 0) = R at *
  obtain ⟨R1, R2⟩ := R
  simp only [List.nil_append] at t1 t2 t3 t4 t5 ⊢
  have hm : ∀ x ∈ R2, x.2.length = x.1.length := fun x hx => (t3 x hx).1
  have hall : ∃ rd rp, (R2.map (·.1)).flatten ++ rd = l1 ∧ (R2.map (·.2)).flatten ++ rp = upFrom 0 l1.length := by
    by_cases e : R1.err = 0
    · exact ⟨_, _, t4 e⟩
    · obtain ⟨rd, rp, h1, h2, _⟩ := t5 e
      exact ⟨rd, rp, h1, h2⟩
  obtain ⟨rd, rp, h1, h2⟩ := hall
  have hle := congrArg List.length h1
  rw [List.length_append] at hle
  refine ⟨fun j x hj => ?_, ?_, by omega, fun e => ?_, fun e => ?_⟩
  · obtain ⟨-, u2, u3, u4⟩ := t3 x (List.mem_of_getElem? hj)
    have hu := upFrom_cut R2 rp 0 l1.length h2 hm j x hj
    have hf := flat_take R2 j x hj
    rw [Int.zero_add] at hu
    exact ⟨u2, by show _ ≤ m; rw [u3]; exact u4, by omega, by omega, hu⟩
  · conv => rhs; arg 2; rw [← h1]
    rw [List.take_left]
  · obtain ⟨rd, rp, v1, v2, v3, v4, v5, v6⟩ := t5 e
    refine ⟨?_, v6⟩
    rw [v5]
    have hl := flat_len R2 hm
    have h3 := congrArg List.length v2
    rw [List.length_append, upFrom_length] at h3
    have h4 := upFrom_get l1.length 0 (R2.map (·.1)).flatten.length (by omega)
    rw [← v2, ← hl, List.getD_eq_getElem?_getD, List.getElem?_append_right (Nat.le_refl _), Nat.sub_self, ← List.getD_eq_getElem?_getD] at h4
    rw [h4, hl]; omega
  · obtain ⟨v1, v2⟩ := t4 e
    have h3 := congrArg List.length v1
    rw [List.length_append] at h3
    refine ⟨h3, ?_⟩
    have t2' : R1.most = m := t2
    by_cases g : 4 ≤ R1.data.length
    · have := t1.few g
      rw [t2'] at this
      omega
    · omega
end Go.Proofs.Ytmdmllfbdpoeeaa
