/- The Go functions shape.item and the two closures that make forms, and the keys of the map of messages; no condition beyond the lemmas' own. -/
import Derived.Test.YtjlpgndcomligaaHSymFn
import Derived.Maps.RangeWalk
namespace Go.Proofs.Ytjlpgndcomligaa
open Go Go.RowKit Go.Maps Go.Proofs.Hand Go.Proofs.YtjlpgndcomligaaW.PrintWords Go.Proofs.YtjlpgndcomligaaW.PrintLast Go.Proofs.YtjlpgndcomligaaW.PrintMore

theorem mixed : Try.prog.follows .mixedOrders = true := by kernel_rfl
theorem lawInt : Keyed Try.prog 3 := int_keyed Try.underlying3
def decInt : Value → Option Int
  | .int .i64 n => if (Lit.int .i64 n).wf = true then some n else none
  | _ => none
def keysInt : Keys where
  κ := Int
  enc := .int .i64
  lit := .int .i64
  ok := fun x => (Lit.int .i64 x).wf = true
  deq := inferInstance
  mt := 53
  kt := 3
  law := lawInt
  und := Try.underlying53
  key := fun x h => keyOf_int_mk Try.underlying3 h
  same := fun x y _ _ => by simp [Lit.sameKey]
  back := fun kl ⟨v, hv⟩ => by
    obtain ⟨x, _, rfl, hw⟩ := Maps.keyOf_int_inv Try.underlying3 hv
    exact ⟨x, hw, rfl⟩
  dec := decInt
  dec_ok := fun v x h => by
    unfold decInt at h
    split at h
    · split at h
      · rename_i hw
        obtain rfl := Option.some.inj h
        exact ⟨hw, rfl⟩
      · cases h
    · cases h
/-- Calls of package layout's alone. -/
def tabLay (Y : Keys) : CallTab Y where
  abs := layAbs
  clo := fun _ _ _ => none
  isPut := fun _ => false
  puts := fun _ _ => none
  abs_in := lay_in
  clo_in := fun _ _ _ _ h => by cases h
  puts_in := fun _ _ _ h => by cases h
  abs_ok := lay_ok
  clo_ok := fun _ _ _ _ _ _ _ _ h => by cases h
  puts_ok := fun _ _ _ _ _ _ _ _ h => by cases h
def itemForm : Form := ⟨3, 0, 0, 0, 0, [⟨0, 2, 0, 0, 0, []⟩, ⟨1, 2, 0, 65535, 1, []⟩]⟩
theorem item_ok {W : World} {ms : List (Nat × Nat)} (hms : ∀ t k, (t, k) ∈ ms → k < W.heap.size) :
    Calls Try.prog 34 #[] W fun e W' => ∃ v, e = .returned v ∧ Below W.heap.size W W' ∧ ∀ t, Sat W' ms t v (.form itemForm) :=
  form_fn (tabLay keysInt) mixed (d := 0) (args := []) (svs := []) Try.func34 rfl rfl (by decide) (by decide) (by kernel_rfl) hms trivial rfl rfl (Nat.zero_le _)
end Go.Proofs.Ytjlpgndcomligaa
