/-
  No cell of these rows narrows 'for every input' (looked for: loops, veiled, ifaces, maps, wideKeys, modest, calm, conditions, laid).
  DERIVED. THE GIVEN ROWS OF THIS SEAT. 4 by the template 'for every input the law returns true; each argument reads behind the call as it read before'; 0 by the template 'total and deterministic' (their statements: YtjlpgndcomligaaTotals.lean).
  GIVEN WITH THE SEED: the statements are not yours to turn. If you find one false, say at which input.
  Laid BY PROGRAM, IN A SANDBOX (cutbox-rows.mjs): the forced cells as the released guide's own fill.sh prints them over the translation 0d2829be5f609a64… (all of the seat's roots in one cut). By AI agents, Wed Nov 11 2026. No macro, syntax, notation, axiom, sorry.
-/
import Derived.Test.YtjlpgndcomligaaChecked
import GoSem.Claim
import GoSem.ClaimJoined
import GoSem.ClaimMapViews
import Derived.JoinedTies
import Derived.KernelRfl
namespace Go.Proofs.Ytjlpgndcomligaa
/- THE CELL 'sum', in the pinned program and in every row, IS THE sha256 OF THE DUMP (.gsa) THAT YtjlpgndcomligaaProg.lean LOADS. Nothing in Lean hashes anything: it is a label: what it is worth is what the hold of that sum in a sandbox is worth. -/
noncomputable def Try.pinned : Pinned := { name := "ytjlpgndcomligaa", sum := "0d2829be5f609a64173969bbb6b91216f5a6c5bcca4e0d29f29f73bd62172463", checked := Try.checked }
namespace Rows
def none {H : Type} : Left H := { results := [], args := [] }

/-- 'passepartoutlaw13.ShapeExts': WHATEVER THE INPUT: true; the input reads as it did. -/
def shapeExtsSpec : ChangeSpec := { name := "shapeExts", fn := fun _ => fun
  | [d1, d2] => { results := [.lit (.bool true)], args := [d1, d2] }
  | _ => none }
def shapeExtsRow : OpenClaim := { program := "ytjlpgndcomligaa", sum := "0d2829be5f609a64173969bbb6b91216f5a6c5bcca4e0d29f29f73bd62172463", func := "passepartout/passepartoutlaw13.ShapeExts", spec := "shapeExts", unfollowed := true, recurses := true, plainKeys := false, apart := false }
def ShapeExtsSaid : Prop := shapeExtsRow.holds Try.pinned (OpenSpec.ofChange shapeExtsSpec)

/-- ITS FALSE NEIGHBOUR: 'it returns false'. Refute it at one input. -/
def shapeExtsWrong : ChangeSpec := { name := "shapeExts", fn := fun _ => fun
  | [d1, d2] => { results := [.lit (.bool false)], args := [d1, d2] }
  | _ => none }
def ShapeExtsWrongFalsely : Prop := shapeExtsRow.holds Try.pinned (OpenSpec.ofChange shapeExtsWrong)

/-- 'passepartoutlaw13.ShapeMessages': WHATEVER THE INPUT: true; the input reads as it did. -/
def shapeMessagesSpec : ChangeSpec := { name := "shapeMessages", fn := fun _ => fun
  | [d] => { results := [.lit (.bool true)], args := [d] }
  | _ => none }
def shapeMessagesRow : OpenClaim := { program := "ytjlpgndcomligaa", sum := "0d2829be5f609a64173969bbb6b91216f5a6c5bcca4e0d29f29f73bd62172463", func := "passepartout/passepartoutlaw13.ShapeMessages", spec := "shapeMessages", unfollowed := true, recurses := true, plainKeys := false, apart := false }
def ShapeMessagesSaid : Prop := shapeMessagesRow.holds Try.pinned (OpenSpec.ofChange shapeMessagesSpec)

/-- ITS FALSE NEIGHBOUR: 'it returns false'. Refute it at one input. -/
def shapeMessagesWrong : ChangeSpec := { name := "shapeMessages", fn := fun _ => fun
  | [d] => { results := [.lit (.bool false)], args := [d] }
  | _ => none }
def ShapeMessagesWrongFalsely : Prop := shapeMessagesRow.holds Try.pinned (OpenSpec.ofChange shapeMessagesWrong)

/-- 'passepartoutlaw13.ShapeOwn': WHATEVER THE INPUT: true; the input reads as it did. -/
def shapeOwnSpec : ChangeSpec := { name := "shapeOwn", fn := fun _ => fun
  | [d1, d2] => { results := [.lit (.bool true)], args := [d1, d2] }
  | _ => none }
def shapeOwnRow : OpenClaim := { program := "ytjlpgndcomligaa", sum := "0d2829be5f609a64173969bbb6b91216f5a6c5bcca4e0d29f29f73bd62172463", func := "passepartout/passepartoutlaw13.ShapeOwn", spec := "shapeOwn", unfollowed := true, recurses := true, plainKeys := false, apart := false }
def ShapeOwnSaid : Prop := shapeOwnRow.holds Try.pinned (OpenSpec.ofChange shapeOwnSpec)

/-- ITS FALSE NEIGHBOUR: 'it returns false'. Refute it at one input. -/
def shapeOwnWrong : ChangeSpec := { name := "shapeOwn", fn := fun _ => fun
  | [d1, d2] => { results := [.lit (.bool false)], args := [d1, d2] }
  | _ => none }
def ShapeOwnWrongFalsely : Prop := shapeOwnRow.holds Try.pinned (OpenSpec.ofChange shapeOwnWrong)

/-- 'passepartoutlaw13.ShapeRight': WHATEVER THE INPUT: true; the input reads as it did. -/
def shapeRightSpec : ChangeSpec := { name := "shapeRight", fn := fun _ => fun
  | [d1, d2] => { results := [.lit (.bool true)], args := [d1, d2] }
  | _ => none }
def shapeRightRow : OpenClaim := { program := "ytjlpgndcomligaa", sum := "0d2829be5f609a64173969bbb6b91216f5a6c5bcca4e0d29f29f73bd62172463", func := "passepartout/passepartoutlaw13.ShapeRight", spec := "shapeRight", unfollowed := true, recurses := true, plainKeys := false, apart := false }
def ShapeRightSaid : Prop := shapeRightRow.holds Try.pinned (OpenSpec.ofChange shapeRightSpec)

/-- ITS FALSE NEIGHBOUR: 'it returns false'. Refute it at one input. -/
def shapeRightWrong : ChangeSpec := { name := "shapeRight", fn := fun _ => fun
  | [d1, d2] => { results := [.lit (.bool false)], args := [d1, d2] }
  | _ => none }
def ShapeRightWrongFalsely : Prop := shapeRightRow.holds Try.pinned (OpenSpec.ofChange shapeRightWrong)

/- THE SECOND FORM. 'bulk': how many values and letters a reading holds, each counted each time it is reached (what is shared counts as often as it is met; a slice's spare places count too). A statement '..UptoSaid' is the law's where the arguments, and the package variables that the reading takes, are together of bulk at most 1048576: NARROWER than '..Said'. Prove '..Said' where nothing that the law and all that it calls make is longer than what came in: it says more and counts as full. Else prove '..UptoSaid'. A law counts once. -/
mutual
def uptoBulk {H : Type} : DataW H → Nat
  | .lit (.string bytes) => bytes.length + 1
  | .lit _ => 1
  | .nil => 1
  | .ptr d => uptoBulk d + 1
  | .slice elems spare => uptoBulkAll elems + uptoBulkAll spare + 1
  | .agg parts => uptoBulkAll parts + 1
  | .iface _ d => uptoBulk d + 1
  | .map entries => uptoBulkEntries entries + 1
  | .held _ => 1
def uptoBulkAll {H : Type} : List (DataW H) → Nat
  | [] => 0
  | d :: r => uptoBulk d + uptoBulkAll r
def uptoBulkEntries {H : Type} : List (Lit × DataW H) → Nat
  | [] => 0
  | x :: r => uptoBulkEntry x + uptoBulkEntries r
def uptoBulkEntry {H : Type} : Lit × DataW H → Nat
  | (.string bytes, d) => bytes.length + uptoBulk d + 1
  | (_, d) => uptoBulk d + 1
 end
def uptoSmall : (H : Type) → List (DataW H) → Bool := fun _ ds => decide (uptoBulkAll ds ≤ 1048576)
def OpenSpec.upto (s : _root_.Go.ChangeSpec) : _root_.Go.OpenSpec := { _root_.Go.OpenSpec.ofChange s with cond := some uptoSmall }

/-- 'passepartoutlaw13.ShapeExts', WHERE WHAT IT READS IS OF BULK AT MOST 1048576: true; the input reads as it did. -/
def shapeExtsUptoRow : OpenClaim := { program := "ytjlpgndcomligaa", sum := "0d2829be5f609a64173969bbb6b91216f5a6c5bcca4e0d29f29f73bd62172463", func := "passepartout/passepartoutlaw13.ShapeExts", spec := "shapeExts", unfollowed := true, recurses := true, plainKeys := false, apart := false, narrowed := true }
def ShapeExtsUptoSaid : Prop := shapeExtsUptoRow.holds Try.pinned (OpenSpec.upto shapeExtsSpec)

/-- 'passepartoutlaw13.ShapeMessages', WHERE WHAT IT READS IS OF BULK AT MOST 1048576: true; the input reads as it did. -/
def shapeMessagesUptoRow : OpenClaim := { program := "ytjlpgndcomligaa", sum := "0d2829be5f609a64173969bbb6b91216f5a6c5bcca4e0d29f29f73bd62172463", func := "passepartout/passepartoutlaw13.ShapeMessages", spec := "shapeMessages", unfollowed := true, recurses := true, plainKeys := false, apart := false, narrowed := true }
def ShapeMessagesUptoSaid : Prop := shapeMessagesUptoRow.holds Try.pinned (OpenSpec.upto shapeMessagesSpec)

/-- 'passepartoutlaw13.ShapeOwn', WHERE WHAT IT READS IS OF BULK AT MOST 1048576: true; the input reads as it did. -/
def shapeOwnUptoRow : OpenClaim := { program := "ytjlpgndcomligaa", sum := "0d2829be5f609a64173969bbb6b91216f5a6c5bcca4e0d29f29f73bd62172463", func := "passepartout/passepartoutlaw13.ShapeOwn", spec := "shapeOwn", unfollowed := true, recurses := true, plainKeys := false, apart := false, narrowed := true }
def ShapeOwnUptoSaid : Prop := shapeOwnUptoRow.holds Try.pinned (OpenSpec.upto shapeOwnSpec)

/-- 'passepartoutlaw13.ShapeRight', WHERE WHAT IT READS IS OF BULK AT MOST 1048576: true; the input reads as it did. -/
def shapeRightUptoRow : OpenClaim := { program := "ytjlpgndcomligaa", sum := "0d2829be5f609a64173969bbb6b91216f5a6c5bcca4e0d29f29f73bd62172463", func := "passepartout/passepartoutlaw13.ShapeRight", spec := "shapeRight", unfollowed := true, recurses := true, plainKeys := false, apart := false, narrowed := true }
def ShapeRightUptoSaid : Prop := shapeRightUptoRow.holds Try.pinned (OpenSpec.upto shapeRightSpec)

end Rows
end Go.Proofs.Ytjlpgndcomligaa
