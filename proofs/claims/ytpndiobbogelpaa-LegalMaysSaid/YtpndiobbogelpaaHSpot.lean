/- The keys of the map of extensions: a place and a type; no condition beyond the lemmas' own. -/
import Derived.Test.YtpndiobbogelpaaHShapeA
import Derived.DeepKeys4
namespace Go.Proofs.Ytpndiobbogelpaa
open Go Go.RowKit Go.Maps Go.Proofs.Hand Go.Proofs.YtpndiobbogelpaaW.PrintWords Go.Proofs.YtpndiobbogelpaaW.PrintLast Go.Proofs.YtpndiobbogelpaaW.PrintMore
set_option maxRecDepth 100000

theorem lawSpot : Keyed Try.prog 69 := Keyed.of_law (deep_law_laid (m := 8) (by decide +kernel) (by decide) (by decide +kernel) (by decide +kernel) (by decide +kernel))
def spotVal (x : Int × Int) : Value := .agg #[.int .i64 x.1, .int .i64 x.2]
def spotLit (x : Int × Int) : Lit := .string (keyBytes [.int .i64 x.1, .int .i64 x.2])
def spotOk (x : Int × Int) : Prop := (Lit.int .i64 x.1).wf = true ∧ (Lit.int .i64 x.2).wf = true
theorem spotCells : Try.prog.cellsOf 69 = 2 := by kernel_rfl
theorem intCells : Try.prog.cellsOf 3 = 1 := by kernel_rfl
theorem spotKeyType : Try.prog.keyType 69 = true := by decide +kernel
theorem intLits (d : Nat) (n : Int) (h : (Lit.int .i64 n).wf = true) : Try.prog.keyLits (d + 1) 3 [.int .i64 n] = some [.int .i64 n] := by
  unfold Program.keyLits
  rw [Try.underlying3]
  simp [h]
theorem spotKey (x : Int × Int) (h : spotOk x) : keyOf Try.prog 69 (spotVal x) = some (spotLit x) := by
  unfold keyOf
  rw [Try.underlying69]
  simp only [spotKeyType, Value.formed, Try.underlying69, spotCells, spotVal, Value.cells]
  unfold Program.keyLits
  rw [Try.underlying69]
  simp [spotCells, intCells, spotLit]
  rw [intLits _ _ h.1, intLits _ _ h.2]
  rfl
theorem intLits_inv {d : Nat} {c : List Value} {l : List Lit} (h : Try.prog.keyLits (d + 1) 3 c = some l) : ∃ n, c = [.int .i64 n] ∧ l = [.int .i64 n] ∧ (Lit.int .i64 n).wf = true := by
  unfold Program.keyLits at h
  rw [Try.underlying3] at h
  rcases c with _ | ⟨v, _ | ⟨v2, r⟩⟩
  · simp at h
  · cases v <;> simp at h
    obtain ⟨⟨rfl, hw⟩, rfl⟩ := h
    exact ⟨_, rfl, rfl, hw⟩
  · simp at h
theorem spotKey_inv {v : Value} {kl : Lit} (h : keyOf Try.prog 69 v = some kl) : ∃ x, spotOk x ∧ v = spotVal x ∧ kl = spotLit x := by
  unfold keyOf at h
  rw [Try.underlying69] at h
  simp only [spotKeyType, Bool.true_and] at h
  split at h
  case isFalse => cases h
  rename_i hf
  obtain ⟨ls, h1, rfl⟩ := Option.map_eq_some_iff.1 h
  cases v <;> simp [Value.formed, Try.underlying69] at hf
  rename_i cs
  rw [spotCells] at hf
  obtain ⟨c0, c1, rfl⟩ : ∃ c0 c1, cs = #[c0, c1] := by
    obtain ⟨l⟩ := cs
    match l, hf with
    | [c0, c1], _ => exact ⟨c0, c1, rfl⟩
  unfold Program.keyLits at h1
  rw [Try.underlying69] at h1
  simp [spotCells, intCells, Value.cells] at h1
  obtain ⟨l0, h2, h3⟩ := Option.bind_eq_some_iff.1 h1
  obtain ⟨n0, e0, rfl, w0⟩ := intLits_inv h2
  simp only [Function.comp] at h3
  obtain ⟨l', h4, h5⟩ := Option.map_eq_some_iff.1 h3
  obtain ⟨l1, h6, h7⟩ := Option.bind_eq_some_iff.1 h4
  obtain ⟨l2, h8, h9⟩ := Option.bind_eq_some_iff.1 h6
  obtain ⟨n1, e1, rfl, w1⟩ := intLits_inv h8
  obtain rfl := Option.some.inj h9
  obtain rfl := Option.some.inj h7
  obtain rfl := (List.cons.inj e0).1
  obtain rfl := (List.cons.inj e1).1
  obtain rfl := h5.symm
  exact ⟨(n0, n1), ⟨w0, w1⟩, rfl, rfl⟩
theorem spotSame (x y : Int × Int) (hx : spotOk x) (hy : spotOk y) : (spotLit x).sameKey (spotLit y) = decide (x = y) := by
  by_cases e : x = y
  · subst e; simp [spotLit, Lit.sameKey]
  · rw [decide_eq_false e]
    apply Bool.eq_false_iff.2
    intro h
    have h2 : spotLit x = spotLit y := by
      unfold spotLit Lit.sameKey at h
      unfold spotLit
      rw [eq_of_beq h]
    have h3 := lawSpot.inj (spotKey x hx) (h2 ▸ spotKey y hy)
    unfold spotVal at h3
    simp at h3
    exact e (Prod.ext h3.1 h3.2)
def decSpot : Value → Option (Int × Int)
  | _ => none
def keysSpot : Keys where
  κ := Int × Int
  enc := spotVal
  lit := spotLit
  ok := spotOk
  deq := inferInstance
  mt := 66
  kt := 69
  law := lawSpot
  und := Try.underlying66
  key := spotKey
  same := spotSame
  back := fun kl ⟨v, hv⟩ => by obtain ⟨x, hx, _, e⟩ := spotKey_inv hv; exact ⟨x, hx, e⟩
  dec := decSpot
  dec_ok := fun v x h => by cases h
end Go.Proofs.Ytpndiobbogelpaa
