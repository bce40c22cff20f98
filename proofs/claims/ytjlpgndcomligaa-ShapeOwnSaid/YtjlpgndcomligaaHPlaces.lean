/- The Go function shape.Places returns the places whose table has the type, rising, in new cells; the number is an int's. -/
import Derived.Test.YtjlpgndcomligaaHItem
import Derived.Test.YtjlpgndcomligaaHLay
import Derived.Sort.OwnSortedInts
namespace Go.Proofs.Ytjlpgndcomligaa
open Go Go.RowKit Go.Maps Go.Proofs.Hand Go.Proofs.YtjlpgndcomligaaW.PrintWords Go.Proofs.YtjlpgndcomligaaW.PrintLast Go.Proofs.YtjlpgndcomligaaW.PrintMore Go.Shelf Go.Sort

theorem ints_own {W : World} {base : Nat} {ok : Nat → Prop} {v : Value} {l : List Int} (h : Kd.R (Kd.int .i64) 3 W base ok v l) : W.ownsRow base 3 1 v l.length (l.map (.int .i64)) := by
  obtain ⟨_, inner, ho, hr⟩ := h
  have e : inner = l.map (.int .i64) := by
    apply List.ext_getElem?
    intro j
    by_cases hj : j < l.length
    · have h1 : (inner.drop (j * 1)).take 1 = [.int .i64 l[j]] := hr.2 j _ (List.getElem?_eq_getElem hj)
      have h2 : ((inner.drop (j * 1)).take 1)[0]? = some (.int .i64 l[j]) := by rw [h1]; rfl
      rw [List.getElem?_take_of_lt (by decide), List.getElem?_drop] at h2
      rw [List.getElem?_map, List.getElem?_eq_getElem hj]
      simpa using h2
    · have h1 : inner.length = l.length * 1 := hr.1
      rw [List.getElem?_eq_none (by omega), List.getElem?_eq_none (by simp; omega)]
  rw [← e]
  exact ho
theorem own_ints {W : World} {base : Nat} {v : Value} {l : List Int} (h : W.ownsRow base 3 1 v l.length (l.map (.int .i64))) : Kd.R (Kd.int .i64) 3 W base (fun _ => True) v l :=
  ⟨fun _ _ => trivial, _, h, ⟨by show _ = _ * 1; simp, fun j p hp => by
    have : ((l.map (Value.int .i64)).drop (j * 1)).take 1 = [.int .i64 p] := by
      obtain ⟨hj, rfl⟩ := List.getElem?_eq_some_iff.1 hp
      rw [Nat.mul_one, List.drop_eq_getElem_cons (by simpa using hj)]
      simp
    exact this⟩⟩
/-- The library's sort, of a row of the call's own. -/
theorem sort_call {W : World} {base : Nat} {v : Value} {l : List Int} (h : Kd.R (Kd.int .i64) 3 W base (fun _ => True) v l) (hl : l.length < 4611686018427387904) :
    Calls Try.prog 31 #[v] W fun e W' => e = .returned (.tuple #[]) ∧ Kd.R (Kd.int .i64) 3 W' base (fun _ => True) v (l.mergeSort fun x y => decide (x ≤ y)) ∧ Below base W W' := by
  have ho := ints_own h
  have ho' := ho
  rcases ho.2 with ⟨rfl, h0⟩ | ⟨g, cap, cur, rfl, hg, hb, hn, hcap, hcs, htake⟩
  · refine (AnyM.slices_Sort_int_none Try.sortA none 0 W).mono ?_
    rintro e W' ⟨rfl, rfl⟩
    obtain rfl := List.eq_nil_of_length_eq_zero h0
    exact ⟨rfl, by simpa using h, Below.refl _ _⟩
  · rw [Nat.mul_one] at htake
    refine (AnyM.slices_Sort_int Try.sortA g 0 cap l W (holds_of_blockI hb htake) (Array.getElem?_eq_some_iff.1 hb).1 hl).mono ?_
    rintro e W' ⟨rfl, n, os, rfl⟩
    have hlen : (l.mergeSort fun x y => decide (x ≤ y)).length = l.length := List.length_mergeSort _
    have h1 := ownsRow_sortedI (n := n) (os := os) (ts := l.mergeSort fun x y => decide (x ≤ y)) hlen hg hb hn hcap hcs
    refine ⟨rfl, own_ints (by rw [hlen]; exact h1), ?_⟩
    exact (Below.refl base W).grown (grownBy_sortedI _) (Nat.le_of_lt (by have := (Array.getElem?_eq_some_iff.1 hb).1; omega)) (fun j hj => by cases hj; exact hg)
theorem ranges_below {H : Type} {w w' : World} {P : Program} {k : TypeId} {R : Value → Option (DataW H × List MemPlace)} {b r n B : Nat} {D : DataW H} {left : Lit → Bool} {cnt : Nat} (h : w.ranges P k R b r n D left cnt) (hB : Below B w w') (hb : b < B) (hr : r < B) : w'.ranges P k R b r n D left cnt := by
  obtain ⟨es, clock, since, seen, c0, e1, F, hs, hD, e2, rest⟩ := h
  exact ⟨es, clock, since, seen, c0, (hB.block b hb).trans e1, F, hs, hD, (hB.block r hr).trans e2, rest⟩
/-- The places at a type, as the table's list has them. -/
def placesOf (k : Int) : List Int := (((extTab.map (·.1)).filter fun x => decide (x.2 = k)).map (·.1)).mergeSort fun x y => decide (x ≤ y)
theorem extNodup : (extTab.map (·.1)).Nodup := by decide +kernel
theorem extKeys : ∀ x ∈ extTab.map (·.1), spotOk x := by
  have h : (extTab.map (·.1)).all (fun x => (Lit.int .i64 x.1).wf && (Lit.int .i64 x.2).wf) = true := by decide +kernel
  intro x hx
  have := List.all_eq_true.1 h x hx
  simpa [spotOk] using this
theorem look_some_iff (Y : Keys) : ∀ (l : List (Y.κ × Form)) (z : Y.κ), (look Y l z).isSome = true ↔ z ∈ l.map (·.1)
  | [], z => by simp [look]
  | x :: l, z => by
    have ih := look_some_iff Y l z
    have e : (Y.deq z x.1).decide = true ↔ z = x.1 := by
      cases Y.deq z x.1 <;> simp_all
    simp only [look, List.map_cons, List.mem_cons]
    by_cases h : z = x.1
    · simp [h]
    · simp [h, ih]
/-- What has been gathered, while some entries are still to come. -/
structure Gathered (kind : Int) (left : Lit → Bool) (l : List Int) : Prop where
  nodup : l.Nodup
  mem : ∀ p, p ∈ l ↔ (p, kind) ∈ extTab.map (·.1) ∧ left (spotLit (p, kind)) = false
theorem Gathered.perm {kind : Int} {left : Lit → Bool} {l : List Int} (h : Gathered kind left l) : l.Perm (((extTab.map (·.1)).filter fun x => decide (x.2 = kind) && !left (spotLit x)).map (·.1)) := by
  apply (List.perm_ext_iff_of_nodup h.nodup ?_).2
  · intro p
    rw [h.mem]
    simp only [List.mem_map, List.mem_filter, decide_eq_true_eq, Bool.and_eq_true, Bool.not_eq_true']
    constructor
    · rintro ⟨⟨x, hx, e⟩, hl⟩
      exact ⟨(p, kind), ⟨⟨x, hx, e⟩, rfl, hl⟩, rfl⟩
    · rintro ⟨⟨q, k⟩, ⟨hx, e, hl⟩, rfl⟩
      obtain rfl : k = kind := e
      exact ⟨hx, hl⟩
  · rw [List.Nodup, List.pairwise_map]
    exact (extNodup.filter _).imp_of_mem (fun {a b} ha hb hab => fun e => hab (Prod.ext e (by
      have h1 := (List.mem_filter.1 ha).2
      have h2 := (List.mem_filter.1 hb).2
      simp at h1 h2
      rw [h1.1, h2.1])))
theorem Gathered.few {kind : Int} {left : Lit → Bool} {l : List Int} (h : Gathered kind left l) : l.length ≤ 1000 := by
  rw [h.perm.length_eq, List.length_map]
  have h2 : (extTab.map (·.1)).length ≤ 1000 := by decide +kernel
  exact Nat.le_trans (List.length_filter_le _ _) h2
theorem Gathered.done {kind : Int} {left : Lit → Bool} {l : List Int} (h : Gathered kind left l) (h0 : ∀ kl, left kl = false) : (l.mergeSort fun x y => decide (x ≤ y)) = placesOf kind := by
  have := h.perm
  simp only [h0, Bool.not_false, Bool.and_true] at this
  exact mergeSort_of_perm_i this
/-- A key that the map has is one of the list's. -/
theorem in_ext {M : Lit → Option Value} {W : World} {ms : List (Nat × Nat)} {D : DataW Value} {x : Int × Int} (hT : ∀ x, spotOk x → match look keysSpot extTab x with | none => M (spotLit x) = none | some f => ∃ v, M (spotLit x) = some v ∧ FormIn W ms v f)
    (htl : ∀ kl, match M kl with | some v => Maps.has D kl = true ∧ ∀ z, D.atKey kl z = .held v | none => Maps.has D kl = false) (hx : spotOk x) : Maps.has D (spotLit x) = true ↔ x ∈ extTab.map (·.1) := by
  refine Iff.trans ?_ (look_some_iff keysSpot extTab x)
  have h1 := hT x hx
  have h2 := htl (spotLit x)
  cases hl : look keysSpot extTab x with
  | none =>
    rw [hl] at h1
    simp only at h1
    rw [h1] at h2
    simp [h2]
  | some f =>
    rw [hl] at h1
    obtain ⟨v, hv, _⟩ := h1
    rw [hv] at h2
    simp [h2.1]
theorem Gathered.start {kind : Int} {D : DataW Value} (hmem : ∀ x, spotOk x → (Maps.has D (spotLit x) = true ↔ x ∈ extTab.map (·.1))) : Gathered kind (Maps.has D) [] :=
  ⟨List.nodup_nil, fun p => by
    constructor
    · intro h; cases h
    · rintro ⟨h1, h2⟩
      have h3 := (hmem _ (extKeys _ h1)).2 h1
      rw [h2] at h3
      cases h3⟩
theorem Gathered.add {kind : Int} {left : Lit → Bool} {l : List Int} {p : Int} (h : Gathered kind left l) (hok : spotOk (p, kind)) (hl : left (spotLit (p, kind)) = true) (hm : (p, kind) ∈ extTab.map (·.1)) : Gathered kind (fun z => left z && !z.sameKey (spotLit (p, kind))) (l ++ [p]) := by
  have hn : p ∉ l := fun hp => by
    have := ((h.mem p).1 hp).2
    rw [hl] at this
    cases this
  refine ⟨List.nodup_append.2 ⟨h.nodup, by simp, fun a ha b hb e => ?_⟩, fun z => ?_⟩
  · obtain rfl := List.mem_singleton.1 hb
    subst e
    exact hn ha
  · rw [List.mem_append, List.mem_singleton, h.mem]
    constructor
    · rintro (⟨h1, h2⟩ | rfl)
      · exact ⟨h1, by simp [h2]⟩
      · refine ⟨hm, ?_⟩
        rw [spotSame _ _ hok hok]
        simp
    · rintro ⟨h1, h2⟩
      rw [spotSame _ _ (extKeys _ h1) hok] at h2
      by_cases e : z = p
      · exact .inr e
      · refine .inl ⟨h1, ?_⟩
        have e2 : decide ((z, kind) = (p, kind)) = false := decide_eq_false (fun h => e (Prod.mk.inj h).1)
        rw [e2, Bool.not_false, Bool.and_true] at h2
        exact h2
theorem Gathered.skip {kind : Int} {left : Lit → Bool} {l : List Int} {p q : Int} (h : Gathered kind left l) (hok : spotOk (p, q)) (hq : q ≠ kind) : Gathered kind (fun z => left z && !z.sameKey (spotLit (p, q))) l := by
  refine ⟨h.nodup, fun z => ?_⟩
  rw [h.mem]
  refine and_congr_right fun h1 => ?_
  rw [spotSame _ _ (extKeys _ h1) hok, decide_eq_false (fun e => hq (Prod.mk.inj e).2.symm)]
  simp

def shape_Places.f (a0 : Int) : Option (List Int) := if (Lit.int .i64 a0).wf = true then some (placesOf a0) else none
set_option maxRecDepth 100000 in
set_option maxHeartbeats 4000000 in
theorem shape_Places.calls (a0 : Int) (r : List Int) (w : World) (h : shape_Places.f a0 = some r) :
    Calls Try.prog 12 #[.int .i64 a0] w fun e w' => ∃ v0_ : Value, e = .returned (v0_) ∧ Kd.R (Kd.int .i64) 3 w' w.heap.size (fun _ => True) v0_ r ∧ Below w.heap.size w w' := by
  unfold shape_Places.f at h
  split at h
  case isFalse => cases h
  rename_i hw
  obtain rfl := Option.some.inj h
  have hex := extensions_ok w
  replace hex := Aside0.mk hex
  go_enter Try.func12, Try.ntmps12
  go_wp2_with (first
    | (go_at_call 21; refine hex.out.mono ?_; rintro e w1 ⟨m, ms, rfl, hb1, ⟨M, ⟨D, hown, htl⟩, hT⟩, hm1, hm2⟩)
    | (at_range; refine wpList_range_own _ rfl _ 42 rfl 45 24 lawSpot Try.underlying42 rawElem m _ D rfl hown ?_; intro w2 hrg0 hg0 hs0))
  go_frame
  have hmem : ∀ x, spotOk x → (Maps.has D (spotLit x) = true ↔ x ∈ extTab.map (·.1)) := fun x hx => in_ext hT htl hx
  have hm3 : m < w1.heap.size + 1 := by omega
  have hs1 := hb1.size
  have hB2 : Below w.heap.size w w2 := hb1.grown hg0 hs1 (fun j hj => by cases hj)
  clear hex h hT htl hown hg0 hb1
  generalize hits : w1.heap.size = it at *
  generalize extTab.length = n at hrg0
  have hle : Keep (w.heap.size ≤ it) := ⟨hs1⟩
  clear hs1 hits
  go_loopw [3] (fun v wr => ∃ (left : Lit → Bool) (cnt : Nat) (l : List Int), wr.ranges Try.prog 45 rawElem m it n D left cnt ∧ (∀ kl, left kl = true → Maps.has D kl = true) ∧ Gathered a0 left l ∧ Kd.R (Kd.int .i64) 3 wr (it + 1) (fun _ => True) v l ∧ Below w.heap.size w wr ∧ it + 1 ≤ wr.heap.size)
    (fun _ wr => wr.rangeLeft m it)
  case atStart =>
    refine ⟨_, _, [], hrg0, fun kl h => h, Gathered.start hmem, Kd.R_nil _ _ _ _ _, hB2, by omega⟩
  case round =>
    obtain ⟨left, cnt, l, hrg, hleft, hG, hR, hB, hsz⟩ := hrel
    go_wp2_with (first
      | (at_next; refine wpList_next_ranges _ rfl _ rfl 45 lawSpot rawElem spotVal id (fun key kl hk => by obtain ⟨x, _, e, _⟩ := spotKey_inv hk; exact ⟨x, e⟩) (fun v _ _ => ⟨v, rfl⟩) _ _ _ _ _ _ rfl hrg ?_ ?_))
    · intro hc0 hl0
      have hsort := sort_call hR (by have := hG.few; omega)
      rw [hG.done hl0] at hsort
      replace hsort := Aside0.mk hsort
      go_wp2_with (first
        | (go_at_call 31; refine hsort.out.mono ?_; rintro e w4 ⟨rfl, hR4, hb4⟩))
      go_ret
      exact ⟨_, rfl, Kd.R_lower hR4 (by have := hle.out; omega), hB.trans (hb4.mono (by have := hle.out; omega))⟩
    · intro p q c kl yd yp w3 cnt1 hkey hlk hv hat hrg1 hlt hg1 hs1 hen
      obtain ⟨⟨p', q'⟩, hok, ep, rfl⟩ := spotKey_inv hkey
      obtain ⟨rfl, rfl⟩ : p = p' ∧ q = q' := by simpa [spotVal] using ep
      clear ep hkey hv hat
      simp only [spotVal] at hen
      have hsz3 : it + 1 ≤ w3.heap.size := by omega
      have hR3 := Kd.R_mono (ok' := fun _ => True) (Kd.R_step (Kd.R_bound hR) (fun k hk hlt => hg1.block k hlt (fun e => by have h1 := hk.2.1; have h2 := Option.some.inj e; omega))) (fun _ _ => trivial)
      have hR4 := Kd.R_mono (ok' := fun _ => True) (Kd.R_step (w1 := w3.alloc (.cells #[.int .i64 p, .int .i64 q] 45)) (Kd.R_bound hR3) (fun k hk hlt => Below.heap_alloc _ _ _ hlt)) (fun _ _ => trivial)
      have hB3 := hB.grown hg1 hB.size (fun j hj => by cases hj; exact hle.out)
      replace hR4 := Aside0.mk hR4
      replace hB3 := Aside0.mk hB3
      have hmp := hmem (p, q) hok
      have hleft' : ∀ kl, (left kl && !kl.sameKey (spotLit (p, q))) = true → Maps.has D kl = true := fun kl h => hleft kl (by simp at h; exact h.1)
      clear hR hR3
      by_cases hq : q = a0
      · subst hq
        have heq : ((q == q) = true) := by simp
        go_wp2_with (first
          | ((with_reducible refine gate_builtin (b := .append) rfl ?_); refine Kd.R_append (Kd.int .i64) (w0 := w3.alloc (.cells #[.int .i64 p, .int .i64 q] 45)) (it + 1) rfl (.tmp 17) (.tmp 20) 30 3 (.int .i64 0) 8 rfl Try.underlying30 intInfo rfl (by decide) (by decide) u3 l p [.int .i64 p] (fun _ => True) (fun _ => False) rfl (by first | (go_simp; done) | (go_simp; rfl)) rfl (fun _ hk => hk.elim) (fun _ _ => trivial) hR4.out (Below.refl _ _) (by rw [World.size_alloc]; omega) (by have := hG.few; omega) ?_; intro v1 w4 hR5 hb5 hg5 hat5))
        have hrg4 := ranges_below (hrg1.alloc _) hb5 hm3 (Nat.lt_succ_self it)
        have hs5 := hb5.size
        rw [World.size_alloc] at hs5
        go_roundw
        case rel =>
          refine ⟨_, cnt1, _, hrg4, hleft', hG.add hok hlk (hmp.1 (hleft _ hlk)), hR5, ?_, by omega⟩
          exact (hB3.out.alloc hB3.out.size _).trans (hb5.mono (by have := hle.out; omega))
        case measure => rw [hrg4.left_eq, hrg.left_eq]; exact hlt
      · have heq : ((q == a0) = false) := by simpa using hq
        go_wp2
        have hrg4 := hrg1.alloc (.cells #[.int .i64 p, .int .i64 q] 45)
        go_roundw
        case rel =>
          refine ⟨_, cnt1, _, hrg4, hleft', hG.skip hok hq, hR4.out, hB3.out.alloc hB3.out.size _, by rw [World.size_alloc]; omega⟩
        case measure => rw [hrg4.left_eq, hrg.left_eq]; exact hlt
end Go.Proofs.Ytjlpgndcomligaa
