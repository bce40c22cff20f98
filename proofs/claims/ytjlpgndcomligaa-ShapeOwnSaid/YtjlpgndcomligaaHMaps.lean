/- Laws of maps that a call makes: a map's literal, a store and a look-up, in terms of a function from keys to values; of whatever program, no condition but room. -/
import Derived.WalkKit
import Derived.Maps.OwnOps
import Derived.Maps.OwnSet
import Derived.Maps.RangeWalk
import Derived.Maps.StringElems
import Derived.KernelRfl
import Derived.Lib.SmallJoins
import Derived.Deep.LoopGhost
namespace Go.Proofs.Hand
open Go.RowKit Go.Maps Go.ChangeMaps Go.MapKept Go
open Go.WideElems (Fit rd rg pl rd_val elemAt)

/-- A fact that the walk doesn't look into. -/
structure Keep (p : Prop) : Prop where mk :: (out : p)
/-- An element reads as the very value that it is. -/
def rawElem (v : Value) : Option (DataW Value × List MemPlace) := some (.held v, [])
theorem rawElem_inv {v : Value} {y : DataW Value × List MemPlace} (h : rawElem v = some y) : y = (.held v, []) := by
  unfold rawElem at h; exact (Option.some.inj h).symm

/-- Block b is a map that holds just what m tells. -/
def IsMap (w : World) (P : Program) (k : TypeId) (b n : Nat) (m : Lit → Option Value) : Prop :=
  ∃ D : DataW Value, w.ownsMap P k rawElem b n D ∧ ∀ kl, match m kl with
    | some v => Maps.has D kl = true ∧ ∀ z, D.atKey kl z = .held v
    | none => Maps.has D kl = false

section
variable {P : Program} {ops : Array Oper} {Q : Exit → Act → World → Prop}

end

/-! ### what a map holds, as a function -/
def Tells (D : DataW Value) (m : Lit → Option Value) : Prop := ∀ kl, match m kl with
    | some v => Maps.has D kl = true ∧ ∀ z, D.atKey kl z = .held v
    | none => Maps.has D kl = false
theorem tells_empty : Tells (.map [] : DataW Value) (fun _ => none) := fun _ => rfl
theorem Tells.put {D : DataW Value} {m : Lit → Option Value} (h : Tells D m) (hD : Maps.IsMap D) {kl : Lit} (hk : WideAt.IsKeyLit kl) (v : Value) : Tells (D.put kl (.held v)) (fun z => if z.sameKey kl then some v else m z) := by
  intro z
  by_cases e : z = kl
  · subst e
    have e : z.sameKey z = true := WideAt.sameKey_self hk
    simp only [e, if_true]
    exact ⟨Maps.has_put_same hD hk _, fun z0 => Maps.atKey_put_same hD hk _ z0⟩
  · have hz := h z
    have e' : z.sameKey kl = false := Maps.sameKey_ne e
    simp only [e', Bool.false_eq_true, if_false]
    cases hm : m z with
    | none => rw [hm] at hz; simpa [Maps.has_put_other e] using hz
    | some u => rw [hm] at hz; simpa [Maps.has_put_other e, Maps.atKey_put_other e] using hz
theorem Tells.congr {D : DataW Value} {m m' : Lit → Option Value} (h : Tells D m) (e : ∀ kl, m kl = m' kl) : Tells D m' := fun kl => by have := h kl; rw [e kl] at this; exact this
theorem heap_at (W : World) (o : Obj) (n : Nat) (h : W.heap.size = n) : (W.alloc o).heap[n]? = some o := by subst h; exact (heap_alloc W o).1
theorem heap_set_ne (w : World) (p : Addr) (u : Value) (k : Nat) (h : k ≠ p.block) : (w.setCell p u).heap[k]? = w.heap[k]? := by
  unfold World.setCell
  simp [Array.getElem?_modify, Ne.symm h]
theorem own_move {w w' : World} {base : Nat} {e : TypeId} {size : Nat} {v : Value} {n : Nat} {xs : List Value} (h : w.ownsRow base e size v n xs) (hb : ∀ g, base ≤ g → w'.heap[g]? = w.heap[g]?) : w'.ownsRow base e size v n xs := by
  refine ⟨h.1, ?_⟩
  rcases h.2 with hn | ⟨g, cap, cur, hv, hbg, hg, rest⟩
  · exact .inl hn
  · exact .inr ⟨g, cap, cur, hv, hbg, (hb g hbg).trans hg, rest⟩
theorem own_base_le {w : World} {base base' : Nat} {e : TypeId} {size : Nat} {v : Value} {n : Nat} {xs : List Value} (h : w.ownsRow base e size v n xs) (hb : base' ≤ base) : w.ownsRow base' e size v n xs := by
  refine ⟨h.1, ?_⟩
  rcases h.2 with hn | ⟨g, cap, cur, hv, hbg, rest⟩
  · exact .inl hn
  · exact .inr ⟨g, cap, cur, hv, Nat.le_trans hb hbg, rest⟩
section
variable {P : Program} {k : TypeId} {w w' : World} {b n : Nat} {m : Lit → Option Value}
theorem IsMap.kept {row : Option Nat} (h : IsMap w P k b n m) (hg : w.grownBy w' row) (hne : some b ≠ row) : IsMap w' P k b n m := let ⟨D, hD, ht⟩ := h; ⟨D, hD.kept hg hne, ht⟩
theorem IsMap.below {B : Nat} (h : IsMap w P k b n m) (hb : Below B w w') (hB : b < B) : IsMap w' P k b n m := by
  obtain ⟨D, ⟨es, clock, hh, F, hs, hD⟩, ht⟩ := h
  exact ⟨D, ⟨es, clock, (hb.block b hB).trans hh, F, hs, hD⟩, ht⟩
theorem IsMap.alloc (h : IsMap w P k b n m) (o : Obj) : IsMap (w.alloc o) P k b n m := h.kept (World.grownBy_alloc w o none) (by simp)
theorem IsMap.lt (h : IsMap w P k b n m) : b < w.heap.size := let ⟨_, hD, _⟩ := h; hD.lt
theorem IsMap.move (h : IsMap w P k b n m) (hb : w'.heap[b]? = w.heap[b]?) : IsMap w' P k b n m := by
  obtain ⟨D, ⟨es, clock, hh, F, hs, hD⟩, ht⟩ := h
  exact ⟨D, ⟨es, clock, hb.trans hh, F, hs, hD⟩, ht⟩
theorem IsMap.congr {m' : Lit → Option Value} (h : IsMap w P k b n m) (e : ∀ kl, m kl = m' kl) : IsMap w P k b n m' := let ⟨D, hD, ht⟩ := h; ⟨D, hD, Tells.congr ht e⟩
theorem IsMap.mono {n' : Nat} (h : IsMap w P k b n m) (hn : n ≤ n') : IsMap w P k b n' m := let ⟨D, hD, ht⟩ := h; ⟨D, hD.mono hn, ht⟩
theorem isMap_made (w : World) (P : Program) (k : TypeId) : IsMap (w.alloc (.map #[] 0)) P k w.heap.size 0 (fun _ => none) := ⟨.map [], World.ownsMap_made w P k _, tells_empty⟩
/-- 'm[k] = v'. -/
theorem IsMap.update {t e : TypeId} (h : IsMap w P k b n m) (K : Keyed P k) (ht : P.underlying t = some (.map k e)) (hn : n < maxLen) {key : Value} (val : Value) {kl : Lit} (hkey : keyOf P k key = some kl) :
    ∃ w', (Instr.mapUpdate t (.map (some b)) key val).run P w = .ok () w' ∧ IsMap w' P k b (n + 1) (fun z => if z.sameKey kl then some val else m z) ∧ w.grownBy w' (some b) := by
  obtain ⟨D, hD, htl⟩ := h
  obtain ⟨w', hrun, hown, hg⟩ := hD.update K ht hn hkey (d := .held val) (ps := []) rfl
  exact ⟨w', hrun, ⟨_, hown, Tells.put htl hD.isMap (K.key hkey) val⟩, hg⟩
/-- 'm[k]', 'v, ok := m[k]'. -/
theorem IsMap.look {t e : TypeId} (h : IsMap w P k b n m) (K : Keyed P k) (ht : P.underlying t = some (.map k e)) {z : Value} (hz : (zeroValue e).run P w = .ok z w) {key : Value} {kl : Lit} (hkey : keyOf P k key = some kl) (c : Bool) :
    (Instr.lookup t (.map (some b)) key c).run P w = .ok (if c then .tuple #[(m kl).getD z, .bool (m kl).isSome] else (m kl).getD z) w := by
  obtain ⟨D, ⟨es, clock, hb, F, hs, rfl⟩, htl⟩ := h
  have hk := htl kl
  rcases Maps.fit_look c K ht hz hb F hkey with ⟨hrun, _, hat⟩ | ⟨e0, y, _, _, hrun, hRv, hat, _⟩
  · cases hm : m kl with
    | none => rw [hrun]; simp
    | some v =>
      rw [hm] at hk
      have h1 := hat .nil
      rw [hk.2 .nil] at h1
      cases h1
  · cases hm : m kl with
    | none =>
      rw [hm] at hk
      have h1 := Maps.atKey_of_not_has hk .nil
      rw [hat .nil] at h1
      have h2 := rawElem_inv hRv
      rw [h2] at h1
      cases h1
    | some v =>
      rw [hm] at hk
      have h1 := hk.2 .nil
      rw [hat .nil, rawElem_inv hRv] at h1
      injection h1 with h1
      rw [hrun, h1]
      simp
theorem IsMap.look_ok {t e : TypeId} (h : IsMap w P k b n m) (K : Keyed P k) (ht : P.underlying t = some (.map k e)) {z : Value} (hz : (zeroValue e).run P w = .ok z w) {key : Value} {kl : Lit} (hkey : keyOf P k key = some kl) :
    (Instr.lookup t (.map (some b)) key true).run P w = .ok (.tuple #[(m kl).getD z, .bool (m kl).isSome]) w := h.look K ht hz hkey true
end

section
variable {P : Program} {ops : Array Oper} {rest : List Oper} {o : Oper} {a : Act} {Q : Exit → Act → World → Prop} {b n : Nat} {M : Lit → Option Value}
end
end Go.Proofs.Hand
