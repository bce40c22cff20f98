/- Laws of maps that a call makes: a map's literal, a store and a look-up, in terms of a function from keys to values; of whatever program, no condition but room. -/
import Derived.WalkKit
import Derived.Maps.OwnOps
import Derived.Maps.OwnSet
import Derived.Maps.RangeWalk
import Derived.Maps.StringElems
import Derived.KernelRfl
import Derived.Lib.SmallJoins
import Derived.Deep.LoopGhost
namespace Go.Proofs.Hand
open Go.RowKit Go.Maps Go.ChangeMaps Go.MapKept Go
set_option maxRecDepth 100000
open Go.WideElems (Fit rd rg pl rd_val elemAt)

/-- A fact that the walk doesn't look into. -/
structure Keep (p : Prop) : Prop where mk :: (out : p)
/-- An element reads as the very value that it is. -/
def rawElem (v : Value) : Option (DataW Value × List MemPlace) := some (.held v, [])
theorem rawElem_inv {v : Value} {y : DataW Value × List MemPlace} (h : rawElem v = some y) : y = (.held v, []) := by
  unfold rawElem at h; exact (Option.some.inj h).symm

/-- Block b is a map that holds just what m tells. -/
def IsMap (w : World) (P : Program) (k : TypeId) (b n : Nat) (m : Lit → Option Value) : Prop :=
  ∃ D : DataW Value, w.ownsMap P k rawElem b n D ∧ ∀ kl, match m kl with
    | some v => Maps.has D kl = true ∧ ∀ z, D.atKey kl z = .held v
    | none => Maps.has D kl = false

theorem setBlock_alloc (w : World) (o o' : Obj) : setBlock (w.alloc o) w.heap.size o' = w.alloc o' := by
  unfold setBlock World.alloc
  congr 1
  apply Array.ext_getElem?
  intro i
  simp only [Array.getElem?_setIfInBounds, Array.getElem?_push, Array.size_push]
  split <;> rename_i h
  · subst h; simp
  · simp [Ne.symm h]

/-- A literal's inserts, from row to row. -/
def Ins (t N : Nat) : List Oper → List (Value × Value) → Prop
  | _, [] => True
  | [], _ :: _ => False
  | o :: os, x :: xs => o.op = .insert t (.tmp N) (.const x.1) (.const x.2) ∧ o.dst = none ∧ o.guard = none ∧ Ins t N os xs

section
variable {P : Program} {ops : Array Oper} {Q : Exit → Act → World → Prop}

theorem wpList_inserts {t k e N : Nat} (K : Keyed P k) (ht : P.underlying t = some (.map k e)) (w : World) :
    ∀ (L : List (Value × Value)) (os : List Oper) (a : Act) (es : Array MapEntry) (clock n : Nat) (D : DataW Value) (kls : List Lit),
      Ins t N os L → L.map (fun x => keyOf P k x.1) = kls.map some → a.eval (.tmp N) = .map (some w.heap.size) →
      (w.alloc (.map es clock)).ownsMap P k rawElem w.heap.size n D → n + L.length < maxLen →
      (∀ es' clock', (w.alloc (.map es' clock')).ownsMap P k rawElem w.heap.size (n + L.length) ((kls.zip L).foldl (fun D x => D.put x.1 (.held x.2.2)) D) → wpList P ops Q (os.drop L.length) a (w.alloc (.map es' clock'))) →
      wpList P ops Q os a (w.alloc (.map es clock))
  | [], os, a, es, clock, n, D, kls, _, hk, _, hown, _, hK => by
    obtain rfl : kls = [] := by cases kls <;> simp_all
    exact hK es clock (by simpa using hown)
  | x :: xs, [], a, es, clock, n, D, kls, hI, _, _, _, _, _ => hI.elim
  | x :: xs, o :: os, a, es, clock, n, D, kls, hI, hk, hm, hown, hn, hK => by
    obtain ⟨hop, hd, hg, hI'⟩ := hI
    cases kls with
    | nil => simp at hk
    | cons kl kls =>
    simp only [List.map_cons, List.cons.injEq] at hk
    simp only [List.length_cons] at hn hK
    refine wpList_plain hg fun K' hK' => ?_
    obtain ⟨es0, clock0, hb0, F, hs, hD⟩ := hown
    have hb := (heap_alloc w (.map es clock)).1
    obtain ⟨es', clock', hrun, F', hput, _⟩ := Maps.fit_store (R' := rawElem) K ht hb0 F (by omega) (fun _ _ _ _ hz => hz) hk.1 (yv := (.held x.2, [])) rfl
    rw [setBlock_alloc] at hrun
    have hadv : (w.alloc (.map es' clock')).ownsMap P k rawElem w.heap.size (n + 1) (D.put kl (.held x.2)) := by
      refine ⟨es', clock', (heap_alloc w _).1, F', ?_, ?_⟩
      · have e1 : es'.size = ((es'.toList.map (rg P k rawElem)).foldr DataW.insert []).length := by rw [length_sorted]; simp
        rw [e1, hput]
        unfold putKey
        rw [length_insert]
        have e2 := List.length_filter_le (notKey kl) ((es0.toList.map (rg P k rawElem)).foldr DataW.insert [])
        rw [length_sorted] at e2
        simp at e2
        omega
      · rw [hD, DataW.put_eq, hput]
    have hnext := wpList_inserts K ht w xs os a es' clock' (n + 1) _ kls hI' hk.2 hm hadv (by omega) (fun es2 clock2 h2 => hK es2 clock2 (by
      have e : n + 1 + xs.length = n + (xs.length + 1) := by omega
      rw [e] at h2
      simpa using h2))
    have ec : ∀ v, a.eval (.const v) = v := fun _ => rfl
    unfold Oper.wp
    simp [execOp, hop, hm, hrun, ec, Result.andThen]
    have ed : a.put o.dst undef = a := by rw [hd]; rfl
    change K' (a.put o.dst undef) _
    rw [ed]
    exact hK' _ _ hnext

/-- A map's literal. -/
theorem wpList_mapLit {t k e : Nat} (N : Nat) (w : World) {o : Oper} {rest : List Oper} {a : Act} (hg : o.guard = none) (hop : o.op = .makeMap t none) (hd : o.dst = some N)
    (K : Keyed P k) (ht : P.underlying t = some (.map k e)) (L : List (Value × Value)) (kls : List Lit) (hI : Ins t N rest L) (hk : L.map (fun x => keyOf P k x.1) = kls.map some) (hN : N < a.tmps.size) (hl : L.length < maxLen)
    (hK : ∀ es clock, (w.alloc (.map es clock)).ownsMap P k rawElem w.heap.size L.length ((kls.zip L).foldl (fun D x => D.put x.1 (.held x.2.2)) (.map [])) → wpList P ops Q (rest.drop L.length) (a.put (some N) (.map (some w.heap.size))) (w.alloc (.map es clock))) :
    wpList P ops Q (o :: rest) a w := by
  refine wpList_plain hg fun K' hK' => ?_
  unfold Oper.wp
  simp [execOp, hop, run_makeMap, Result.andThen]
  refine hK' _ _ ?_
  rw [hd]
  refine wpList_inserts K ht w L rest _ #[] 0 0 (.map []) kls hI hk ?_ (World.ownsMap_made _ _ _ _) (by omega) (fun es' clock' h => hK es' clock' (by simpa using h))
  simp [Act.eval, Act.put, Array.getD, hN]
end

/-! ### what a map holds, as a function -/
def Tells (D : DataW Value) (m : Lit → Option Value) : Prop := ∀ kl, match m kl with
    | some v => Maps.has D kl = true ∧ ∀ z, D.atKey kl z = .held v
    | none => Maps.has D kl = false
theorem isMap_of {w : World} {P : Program} {k : TypeId} {b n : Nat} {m : Lit → Option Value} {D : DataW Value} (h : w.ownsMap P k rawElem b n D) (ht : Tells D m) : IsMap w P k b n m := ⟨D, h, ht⟩
theorem tells_empty : Tells (.map [] : DataW Value) (fun _ => none) := fun _ => rfl
theorem Tells.put {D : DataW Value} {m : Lit → Option Value} (h : Tells D m) (hD : Maps.IsMap D) {kl : Lit} (hk : WideAt.IsKeyLit kl) (v : Value) : Tells (D.put kl (.held v)) (fun z => if z.sameKey kl then some v else m z) := by
  intro z
  by_cases e : z = kl
  · subst e
    have e : z.sameKey z = true := WideAt.sameKey_self hk
    simp only [e, if_true]
    exact ⟨Maps.has_put_same hD hk _, fun z0 => Maps.atKey_put_same hD hk _ z0⟩
  · have hz := h z
    have e' : z.sameKey kl = false := Maps.sameKey_ne e
    simp only [e', Bool.false_eq_true, if_false]
    cases hm : m z with
    | none => rw [hm] at hz; simpa [Maps.has_put_other e] using hz
    | some u => rw [hm] at hz; simpa [Maps.has_put_other e, Maps.atKey_put_other e] using hz
theorem Tells.congr {D : DataW Value} {m m' : Lit → Option Value} (h : Tells D m) (e : ∀ kl, m kl = m' kl) : Tells D m' := fun kl => by have := h kl; rw [e kl] at this; exact this
/-- The first entry at a key. -/
def getIn : List (Lit × Value) → Lit → Option Value
  | [], _ => none
  | x :: l, k => if k.sameKey x.1 then some x.2 else getIn l k
theorem getIn_cons (x : Lit × Value) (l : List (Lit × Value)) (k : Lit) : getIn (x :: l) k = if k.sameKey x.1 then some x.2 else getIn l k := rfl
theorem getIn_none : ∀ {l : List (Lit × Value)} {k : Lit}, (∀ x ∈ l, x.1 ≠ k) → getIn l k = none
  | [], _, _ => rfl
  | x :: l, k, h => by
    unfold getIn
    rw [if_neg (by rw [Maps.sameKey_ne (fun e => h x List.mem_cons_self e.symm)]; simp)]
    exact getIn_none (fun y hy => h y (List.mem_cons_of_mem _ hy))
theorem tells_fold : ∀ (l : List (Lit × Value)) (D : DataW Value) (m : Lit → Option Value), Tells D m → Maps.IsMap D → (∀ x ∈ l, WideAt.IsKeyLit x.1) → l.Pairwise (fun x y => x.1 ≠ y.1) →
    Tells (l.foldl (fun D x => D.put x.1 (.held x.2)) D) (fun z => match getIn l z with | some v => some v | none => m z)
  | [], D, m, h, _, _, _ => h
  | x :: l, D, m, h, hD, hk, hp => by
    have hp' := List.pairwise_cons.1 hp
    have ih := tells_fold l (D.put x.1 (.held x.2)) _ (h.put hD (hk x List.mem_cons_self) x.2) (hD.put _ _) (fun y hy => hk y (List.mem_cons_of_mem _ hy)) hp'.2
    refine ih.congr (fun kl => ?_)
    show _ = (match getIn (x :: l) kl with | some v => some v | none => m kl)
    rw [getIn_cons]
    by_cases e : kl = x.1
    · have e' : kl.sameKey x.1 = true := by rw [e]; exact WideAt.sameKey_self (hk x List.mem_cons_self)
      simp only [e', if_true]
      rw [getIn_none (l := l) (k := kl) (fun y hy => by rw [e]; exact (hp'.1 y hy).symm)]
    · have e' : kl.sameKey x.1 = false := Maps.sameKey_ne e
      simp only [e', Bool.false_eq_true, if_false]
theorem tells_lit (l : List (Lit × Value)) (hk : ∀ x ∈ l, WideAt.IsKeyLit x.1) (hp : l.Pairwise (fun x y => x.1 ≠ y.1)) : Tells (l.foldl (fun D x => D.put x.1 (.held x.2)) (.map [])) (getIn l) :=
  (tells_fold l _ _ tells_empty Maps.isMap_empty hk hp).congr (fun kl => by cases getIn l kl <;> rfl)

theorem heap_at (W : World) (o : Obj) (n : Nat) (h : W.heap.size = n) : (W.alloc o).heap[n]? = some o := by subst h; exact (heap_alloc W o).1
theorem heap_set_ne (w : World) (p : Addr) (u : Value) (k : Nat) (h : k ≠ p.block) : (w.setCell p u).heap[k]? = w.heap[k]? := by
  unfold World.setCell
  simp [Array.getElem?_modify, Ne.symm h]
theorem cells3 {w : World} {g : Nat} {a b c : Value} {t : TypeId} (h : w.heap[g]? = some (.cells #[a, b, c] t (0, 0))) :
    w.cell? ⟨g, 0, none⟩ = some a ∧ w.cell? ⟨g, 1, none⟩ = some b ∧ w.cell? ⟨g, 2, none⟩ = some c ∧ w.frozen? ⟨g, 0, none⟩ = false ∧ w.frozen? ⟨g, 1, none⟩ = false ∧ w.frozen? ⟨g, 2, none⟩ = false :=
  ⟨Joins.cell_of_block h 0, Joins.cell_of_block h 1, Joins.cell_of_block h 2, Joins.unfrozen_of_block h 0, Joins.unfrozen_of_block h 1, Joins.unfrozen_of_block h 2⟩
theorem own_move {w w' : World} {base : Nat} {e : TypeId} {size : Nat} {v : Value} {n : Nat} {xs : List Value} (h : w.ownsRow base e size v n xs) (hb : ∀ g, base ≤ g → w'.heap[g]? = w.heap[g]?) : w'.ownsRow base e size v n xs := by
  refine ⟨h.1, ?_⟩
  rcases h.2 with hn | ⟨g, cap, cur, hv, hbg, hg, rest⟩
  · exact .inl hn
  · exact .inr ⟨g, cap, cur, hv, hbg, (hb g hbg).trans hg, rest⟩
theorem own_base_le {w : World} {base base' : Nat} {e : TypeId} {size : Nat} {v : Value} {n : Nat} {xs : List Value} (h : w.ownsRow base e size v n xs) (hb : base' ≤ base) : w.ownsRow base' e size v n xs := by
  refine ⟨h.1, ?_⟩
  rcases h.2 with hn | ⟨g, cap, cur, hv, hbg, rest⟩
  · exact .inl hn
  · exact .inr ⟨g, cap, cur, hv, Nat.le_trans hb hbg, rest⟩
theorem own_shape {w : World} {base : Nat} {e : TypeId} {size : Nat} {v : Value} {n : Nat} {xs : List Value} (h : w.ownsRow base e size v n xs) : ∃ A c, v = .slice A n c := by
  rcases h.2 with ⟨rfl, rfl⟩ | ⟨g, cap, cur, rfl, _⟩
  · exact ⟨none, 0, rfl⟩
  · exact ⟨_, cap, rfl⟩
theorem ownsMap_move {H : Type} {W W' : World} {P : Program} {k : TypeId} {R : Value → Option (DataW H × List MemPlace)} {b n : Nat} {D : DataW H} {es : Array MapEntry} {clock : Nat} (h : (W.alloc (.map es clock)).ownsMap P k R W.heap.size n D)
    (hb : W'.heap[b]? = some (.map es clock)) : W'.ownsMap P k R b n D := by
  obtain ⟨es0, clock0, hh, F, hs, hD⟩ := h
  rw [(heap_alloc W _).1] at hh
  cases hh
  exact ⟨es, clock, hb, F, hs, hD⟩

section
variable {P : Program} {k : TypeId} {w w' : World} {b n : Nat} {m : Lit → Option Value}
theorem IsMap.kept {row : Option Nat} (h : IsMap w P k b n m) (hg : w.grownBy w' row) (hne : some b ≠ row) : IsMap w' P k b n m := let ⟨D, hD, ht⟩ := h; ⟨D, hD.kept hg hne, ht⟩
theorem IsMap.below {B : Nat} (h : IsMap w P k b n m) (hb : Below B w w') (hB : b < B) : IsMap w' P k b n m := by
  obtain ⟨D, ⟨es, clock, hh, F, hs, hD⟩, ht⟩ := h
  exact ⟨D, ⟨es, clock, (hb.block b hB).trans hh, F, hs, hD⟩, ht⟩
theorem IsMap.alloc (h : IsMap w P k b n m) (o : Obj) : IsMap (w.alloc o) P k b n m := h.kept (World.grownBy_alloc w o none) (by simp)
theorem IsMap.lt (h : IsMap w P k b n m) : b < w.heap.size := let ⟨_, hD, _⟩ := h; hD.lt
theorem IsMap.move (h : IsMap w P k b n m) (hb : w'.heap[b]? = w.heap[b]?) : IsMap w' P k b n m := by
  obtain ⟨D, ⟨es, clock, hh, F, hs, hD⟩, ht⟩ := h
  exact ⟨D, ⟨es, clock, hb.trans hh, F, hs, hD⟩, ht⟩
theorem IsMap.congr {m' : Lit → Option Value} (h : IsMap w P k b n m) (e : ∀ kl, m kl = m' kl) : IsMap w P k b n m' := let ⟨D, hD, ht⟩ := h; ⟨D, hD, Tells.congr ht e⟩
theorem IsMap.mono {n' : Nat} (h : IsMap w P k b n m) (hn : n ≤ n') : IsMap w P k b n' m := let ⟨D, hD, ht⟩ := h; ⟨D, hD.mono hn, ht⟩
theorem isMap_made (w : World) (P : Program) (k : TypeId) : IsMap (w.alloc (.map #[] 0)) P k w.heap.size 0 (fun _ => none) := ⟨.map [], World.ownsMap_made w P k _, tells_empty⟩
/-- 'm[k] = v'. -/
theorem IsMap.update {t e : TypeId} (h : IsMap w P k b n m) (K : Keyed P k) (ht : P.underlying t = some (.map k e)) (hn : n < maxLen) {key : Value} (val : Value) {kl : Lit} (hkey : keyOf P k key = some kl) :
    ∃ w', (Instr.mapUpdate t (.map (some b)) key val).run P w = .ok () w' ∧ IsMap w' P k b (n + 1) (fun z => if z.sameKey kl then some val else m z) ∧ w.grownBy w' (some b) := by
  obtain ⟨D, hD, htl⟩ := h
  obtain ⟨w', hrun, hown, hg⟩ := hD.update K ht hn hkey (d := .held val) (ps := []) rfl
  exact ⟨w', hrun, ⟨_, hown, Tells.put htl hD.isMap (K.key hkey) val⟩, hg⟩
/-- 'm[k]', 'v, ok := m[k]'. -/
theorem IsMap.look {t e : TypeId} (h : IsMap w P k b n m) (K : Keyed P k) (ht : P.underlying t = some (.map k e)) {z : Value} (hz : (zeroValue e).run P w = .ok z w) {key : Value} {kl : Lit} (hkey : keyOf P k key = some kl) (c : Bool) :
    (Instr.lookup t (.map (some b)) key c).run P w = .ok (if c then .tuple #[(m kl).getD z, .bool (m kl).isSome] else (m kl).getD z) w := by
  obtain ⟨D, ⟨es, clock, hb, F, hs, rfl⟩, htl⟩ := h
  have hk := htl kl
  rcases Maps.fit_look c K ht hz hb F hkey with ⟨hrun, _, hat⟩ | ⟨e0, y, _, _, hrun, hRv, hat, _⟩
  · cases hm : m kl with
    | none => rw [hrun]; simp
    | some v =>
      rw [hm] at hk
      have h1 := hat .nil
      rw [hk.2 .nil] at h1
      cases h1
  · cases hm : m kl with
    | none =>
      rw [hm] at hk
      have h1 := Maps.atKey_of_not_has hk .nil
      rw [hat .nil] at h1
      have h2 := rawElem_inv hRv
      rw [h2] at h1
      cases h1
    | some v =>
      rw [hm] at hk
      have h1 := hk.2 .nil
      rw [hat .nil, rawElem_inv hRv] at h1
      injection h1 with h1
      rw [hrun, h1]
      simp
theorem IsMap.look_ok {t e : TypeId} (h : IsMap w P k b n m) (K : Keyed P k) (ht : P.underlying t = some (.map k e)) {z : Value} (hz : (zeroValue e).run P w = .ok z w) {key : Value} {kl : Lit} (hkey : keyOf P k key = some kl) :
    (Instr.lookup t (.map (some b)) key true).run P w = .ok (.tuple #[(m kl).getD z, .bool (m kl).isSome]) w := h.look K ht hz hkey true
theorem IsMap.look_one {t e : TypeId} (h : IsMap w P k b n m) (K : Keyed P k) (ht : P.underlying t = some (.map k e)) {z : Value} (hz : (zeroValue e).run P w = .ok z w) {key : Value} {kl : Lit} (hkey : keyOf P k key = some kl) :
    (Instr.lookup t (.map (some b)) key false).run P w = .ok ((m kl).getD z) w := h.look K ht hz hkey false
end

section
variable {P : Program} {ops : Array Oper} {rest : List Oper} {o : Oper} {a : Act} {Q : Exit → Act → World → Prop} {b n : Nat} {M : Lit → Option Value}
/-- 'm[k] = v' at the operation. -/
theorem wpList_mapUpdate_is (w : World) (hg : o.guard = none) (m x v : Operand) (t : TypeId) (hop : o.op = Op.mapUpdate t m x v)
    (k e : TypeId) (K : Keyed P k) (ht : P.underlying t = some (.map k e)) (b n : Nat) (M : Lit → Option Value)
    (hm : a.eval m = .map (some b)) (h : IsMap w P k b n M) (hn : n < maxLen) (key val : Value) (kl : Lit) (hx : a.eval x = key) (hv : a.eval v = val) (hkey : keyOf P k key = some kl)
    (hK : ∀ w', IsMap w' P k b (n + 1) (fun z => if z.sameKey kl then some val else M z) → w.grownBy w' (some b) → wpList P ops Q rest (a.put o.dst undef) w') :
    wpList P ops Q (o :: rest) a w := by
  refine wpList_plain hg fun K' hK' => ?_
  obtain ⟨w', hrun, r1, r2⟩ := h.update K ht hn val hkey
  unfold Oper.wp
  simp [execOp, hop, hm, hx, hv, hrun, Result.andThen]
  exact hK' _ _ (hK w' r1 r2)
end
end Go.Proofs.Hand
