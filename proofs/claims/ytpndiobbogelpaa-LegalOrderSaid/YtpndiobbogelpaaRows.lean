/-
  No cell of these rows narrows 'for every input' (looked for: loops, veiled, ifaces, maps, wideKeys, modest, calm, conditions, laid).
  DERIVED. THE GIVEN ROWS OF THIS SEAT. 6 by the template 'for every input the law returns true; each argument reads behind the call as it read before'; 0 by the template 'total and deterministic' (their statements: YtpndiobbogelpaaTotals.lean).
  GIVEN WITH THE SEED: the statements are not yours to turn. If you find one false, say at which input.
  Laid BY PROGRAM, IN A SANDBOX (cutbox-rows.mjs): the forced cells as the released guide's own fill.sh prints them over the translation 27882d263d6ccb4a… (all of the seat's roots in one cut). By AI agents, Wed Nov 11 2026. No macro, syntax, notation, axiom, sorry.
-/
import Derived.Test.YtpndiobbogelpaaChecked
import GoSem.Claim
import GoSem.ClaimJoined
import GoSem.ClaimMapViews
import Derived.JoinedTies
import Derived.KernelRfl
namespace Go.Proofs.Ytpndiobbogelpaa
/- THE CELL 'sum', in the pinned program and in every row, IS THE sha256 OF THE DUMP (.gsa) THAT YtpndiobbogelpaaProg.lean LOADS. Nothing in Lean hashes anything: it is a label: what it is worth is what the hold of that sum in a sandbox is worth. -/
noncomputable def Try.pinned : Pinned := { name := "ytpndiobbogelpaa", sum := "27882d263d6ccb4aea92767e3a4d5fd62d157152699efd45bd4a3e4c3f4355cb", checked := Try.checked }
namespace Rows
def none {H : Type} : Left H := { results := [], args := [] }

/-- 'passepartoutlaw14.LegalChecks': WHATEVER THE INPUT: true; the input reads as it did. -/
def legalChecksSpec : ChangeSpec := { name := "legalChecks", fn := fun _ => fun
  | [d1, d2] => { results := [.lit (.bool true)], args := [d1, d2] }
  | _ => none }
def legalChecksRow : OpenClaim := { program := "ytpndiobbogelpaa", sum := "27882d263d6ccb4aea92767e3a4d5fd62d157152699efd45bd4a3e4c3f4355cb", func := "passepartout/passepartoutlaw14.LegalChecks", spec := "legalChecks", unfollowed := true, recurses := true, plainKeys := false, apart := false }
def LegalChecksSaid : Prop := legalChecksRow.holds Try.pinned (OpenSpec.ofChange legalChecksSpec)

/-- ITS FALSE NEIGHBOUR: 'it returns false'. Refute it at one input. -/
def legalChecksWrong : ChangeSpec := { name := "legalChecks", fn := fun _ => fun
  | [d1, d2] => { results := [.lit (.bool false)], args := [d1, d2] }
  | _ => none }
def LegalChecksWrongFalsely : Prop := legalChecksRow.holds Try.pinned (OpenSpec.ofChange legalChecksWrong)

/-- 'passepartoutlaw14.LegalMays': WHATEVER THE INPUT: true; the input reads as it did. -/
def legalMaysSpec : ChangeSpec := { name := "legalMays", fn := fun _ => fun
  | [d1, d2] => { results := [.lit (.bool true)], args := [d1, d2] }
  | _ => none }
def legalMaysRow : OpenClaim := { program := "ytpndiobbogelpaa", sum := "27882d263d6ccb4aea92767e3a4d5fd62d157152699efd45bd4a3e4c3f4355cb", func := "passepartout/passepartoutlaw14.LegalMays", spec := "legalMays", unfollowed := true, recurses := true, plainKeys := false, apart := false }
def LegalMaysSaid : Prop := legalMaysRow.holds Try.pinned (OpenSpec.ofChange legalMaysSpec)

/-- ITS FALSE NEIGHBOUR: 'it returns false'. Refute it at one input. -/
def legalMaysWrong : ChangeSpec := { name := "legalMays", fn := fun _ => fun
  | [d1, d2] => { results := [.lit (.bool false)], args := [d1, d2] }
  | _ => none }
def LegalMaysWrongFalsely : Prop := legalMaysRow.holds Try.pinned (OpenSpec.ofChange legalMaysWrong)

/-- 'passepartoutlaw14.LegalLess': WHATEVER THE INPUT: true; the input reads as it did. -/
def legalLessSpec : ChangeSpec := { name := "legalLess", fn := fun _ => fun
  | [d1, d2, d3] => { results := [.lit (.bool true)], args := [d1, d2, d3] }
  | _ => none }
def legalLessRow : OpenClaim := { program := "ytpndiobbogelpaa", sum := "27882d263d6ccb4aea92767e3a4d5fd62d157152699efd45bd4a3e4c3f4355cb", func := "passepartout/passepartoutlaw14.LegalLess", spec := "legalLess", unfollowed := true, recurses := true, plainKeys := false, apart := false }
def LegalLessSaid : Prop := legalLessRow.holds Try.pinned (OpenSpec.ofChange legalLessSpec)

/-- ITS FALSE NEIGHBOUR: 'it returns false'. Refute it at one input. -/
def legalLessWrong : ChangeSpec := { name := "legalLess", fn := fun _ => fun
  | [d1, d2, d3] => { results := [.lit (.bool false)], args := [d1, d2, d3] }
  | _ => none }
def LegalLessWrongFalsely : Prop := legalLessRow.holds Try.pinned (OpenSpec.ofChange legalLessWrong)

/-- 'passepartoutlaw14.LegalMore': WHATEVER THE INPUT: true; the input reads as it did. -/
def legalMoreSpec : ChangeSpec := { name := "legalMore", fn := fun _ => fun
  | [d1, d2, d3] => { results := [.lit (.bool true)], args := [d1, d2, d3] }
  | _ => none }
def legalMoreRow : OpenClaim := { program := "ytpndiobbogelpaa", sum := "27882d263d6ccb4aea92767e3a4d5fd62d157152699efd45bd4a3e4c3f4355cb", func := "passepartout/passepartoutlaw14.LegalMore", spec := "legalMore", unfollowed := true, recurses := true, plainKeys := false, apart := false }
def LegalMoreSaid : Prop := legalMoreRow.holds Try.pinned (OpenSpec.ofChange legalMoreSpec)

/-- ITS FALSE NEIGHBOUR: 'it returns false'. Refute it at one input. -/
def legalMoreWrong : ChangeSpec := { name := "legalMore", fn := fun _ => fun
  | [d1, d2, d3] => { results := [.lit (.bool false)], args := [d1, d2, d3] }
  | _ => none }
def LegalMoreWrongFalsely : Prop := legalMoreRow.holds Try.pinned (OpenSpec.ofChange legalMoreWrong)

/-- 'passepartoutlaw14.LegalOrder': WHATEVER THE INPUT: true; the input reads as it did. -/
def legalOrderSpec : ChangeSpec := { name := "legalOrder", fn := fun _ => fun
  | [d1, d2, d3] => { results := [.lit (.bool true)], args := [d1, d2, d3] }
  | _ => none }
def legalOrderRow : OpenClaim := { program := "ytpndiobbogelpaa", sum := "27882d263d6ccb4aea92767e3a4d5fd62d157152699efd45bd4a3e4c3f4355cb", func := "passepartout/passepartoutlaw14.LegalOrder", spec := "legalOrder", unfollowed := true, recurses := true, plainKeys := false, apart := false }
def LegalOrderSaid : Prop := legalOrderRow.holds Try.pinned (OpenSpec.ofChange legalOrderSpec)

/-- ITS FALSE NEIGHBOUR: 'it returns false'. Refute it at one input. -/
def legalOrderWrong : ChangeSpec := { name := "legalOrder", fn := fun _ => fun
  | [d1, d2, d3] => { results := [.lit (.bool false)], args := [d1, d2, d3] }
  | _ => none }
def LegalOrderWrongFalsely : Prop := legalOrderRow.holds Try.pinned (OpenSpec.ofChange legalOrderWrong)

/-- 'passepartoutlaw14.LegalTable': WHATEVER THE INPUT: true; the input reads as it did. -/
def legalTableSpec : ChangeSpec := { name := "legalTable", fn := fun _ => fun
  | [d] => { results := [.lit (.bool true)], args := [d] }
  | _ => none }
def legalTableRow : OpenClaim := { program := "ytpndiobbogelpaa", sum := "27882d263d6ccb4aea92767e3a4d5fd62d157152699efd45bd4a3e4c3f4355cb", func := "passepartout/passepartoutlaw14.LegalTable", spec := "legalTable", unfollowed := true, recurses := true, plainKeys := false, apart := false }
def LegalTableSaid : Prop := legalTableRow.holds Try.pinned (OpenSpec.ofChange legalTableSpec)

/-- ITS FALSE NEIGHBOUR: 'it returns false'. Refute it at one input. -/
def legalTableWrong : ChangeSpec := { name := "legalTable", fn := fun _ => fun
  | [d] => { results := [.lit (.bool false)], args := [d] }
  | _ => none }
def LegalTableWrongFalsely : Prop := legalTableRow.holds Try.pinned (OpenSpec.ofChange legalTableWrong)

/- THE SECOND FORM. 'bulk': how many values and letters a reading holds, each counted each time it is reached (what is shared counts as often as it is met; a slice's spare places count too). A statement '..UptoSaid' is the law's where the arguments, and the package variables that the reading takes, are together of bulk at most 1048576: NARROWER than '..Said'. Prove '..Said' where nothing that the law and all that it calls make is longer than what came in: it says more and counts as full. Else prove '..UptoSaid'. A law counts once. -/
mutual
def uptoBulk {H : Type} : DataW H → Nat
  | .lit (.string bytes) => bytes.length + 1
  | .lit _ => 1
  | .nil => 1
  | .ptr d => uptoBulk d + 1
  | .slice elems spare => uptoBulkAll elems + uptoBulkAll spare + 1
  | .agg parts => uptoBulkAll parts + 1
  | .iface _ d => uptoBulk d + 1
  | .map entries => uptoBulkEntries entries + 1
  | .held _ => 1
def uptoBulkAll {H : Type} : List (DataW H) → Nat
  | [] => 0
  | d :: r => uptoBulk d + uptoBulkAll r
def uptoBulkEntries {H : Type} : List (Lit × DataW H) → Nat
  | [] => 0
  | x :: r => uptoBulkEntry x + uptoBulkEntries r
def uptoBulkEntry {H : Type} : Lit × DataW H → Nat
  | (.string bytes, d) => bytes.length + uptoBulk d + 1
  | (_, d) => uptoBulk d + 1
 end
def uptoSmall : (H : Type) → List (DataW H) → Bool := fun _ ds => decide (uptoBulkAll ds ≤ 1048576)
def OpenSpec.upto (s : _root_.Go.ChangeSpec) : _root_.Go.OpenSpec := { _root_.Go.OpenSpec.ofChange s with cond := some uptoSmall }

/-- 'passepartoutlaw14.LegalChecks', WHERE WHAT IT READS IS OF BULK AT MOST 1048576: true; the input reads as it did. -/
def legalChecksUptoRow : OpenClaim := { program := "ytpndiobbogelpaa", sum := "27882d263d6ccb4aea92767e3a4d5fd62d157152699efd45bd4a3e4c3f4355cb", func := "passepartout/passepartoutlaw14.LegalChecks", spec := "legalChecks", unfollowed := true, recurses := true, plainKeys := false, apart := false, narrowed := true }
def LegalChecksUptoSaid : Prop := legalChecksUptoRow.holds Try.pinned (OpenSpec.upto legalChecksSpec)

/-- 'passepartoutlaw14.LegalMays', WHERE WHAT IT READS IS OF BULK AT MOST 1048576: true; the input reads as it did. -/
def legalMaysUptoRow : OpenClaim := { program := "ytpndiobbogelpaa", sum := "27882d263d6ccb4aea92767e3a4d5fd62d157152699efd45bd4a3e4c3f4355cb", func := "passepartout/passepartoutlaw14.LegalMays", spec := "legalMays", unfollowed := true, recurses := true, plainKeys := false, apart := false, narrowed := true }
def LegalMaysUptoSaid : Prop := legalMaysUptoRow.holds Try.pinned (OpenSpec.upto legalMaysSpec)

/-- 'passepartoutlaw14.LegalLess', WHERE WHAT IT READS IS OF BULK AT MOST 1048576: true; the input reads as it did. -/
def legalLessUptoRow : OpenClaim := { program := "ytpndiobbogelpaa", sum := "27882d263d6ccb4aea92767e3a4d5fd62d157152699efd45bd4a3e4c3f4355cb", func := "passepartout/passepartoutlaw14.LegalLess", spec := "legalLess", unfollowed := true, recurses := true, plainKeys := false, apart := false, narrowed := true }
def LegalLessUptoSaid : Prop := legalLessUptoRow.holds Try.pinned (OpenSpec.upto legalLessSpec)

/-- 'passepartoutlaw14.LegalMore', WHERE WHAT IT READS IS OF BULK AT MOST 1048576: true; the input reads as it did. -/
def legalMoreUptoRow : OpenClaim := { program := "ytpndiobbogelpaa", sum := "27882d263d6ccb4aea92767e3a4d5fd62d157152699efd45bd4a3e4c3f4355cb", func := "passepartout/passepartoutlaw14.LegalMore", spec := "legalMore", unfollowed := true, recurses := true, plainKeys := false, apart := false, narrowed := true }
def LegalMoreUptoSaid : Prop := legalMoreUptoRow.holds Try.pinned (OpenSpec.upto legalMoreSpec)

/-- 'passepartoutlaw14.LegalOrder', WHERE WHAT IT READS IS OF BULK AT MOST 1048576: true; the input reads as it did. -/
def legalOrderUptoRow : OpenClaim := { program := "ytpndiobbogelpaa", sum := "27882d263d6ccb4aea92767e3a4d5fd62d157152699efd45bd4a3e4c3f4355cb", func := "passepartout/passepartoutlaw14.LegalOrder", spec := "legalOrder", unfollowed := true, recurses := true, plainKeys := false, apart := false, narrowed := true }
def LegalOrderUptoSaid : Prop := legalOrderUptoRow.holds Try.pinned (OpenSpec.upto legalOrderSpec)

/-- 'passepartoutlaw14.LegalTable', WHERE WHAT IT READS IS OF BULK AT MOST 1048576: true; the input reads as it did. -/
def legalTableUptoRow : OpenClaim := { program := "ytpndiobbogelpaa", sum := "27882d263d6ccb4aea92767e3a4d5fd62d157152699efd45bd4a3e4c3f4355cb", func := "passepartout/passepartoutlaw14.LegalTable", spec := "legalTable", unfollowed := true, recurses := true, plainKeys := false, apart := false, narrowed := true }
def LegalTableUptoSaid : Prop := legalTableUptoRow.holds Try.pinned (OpenSpec.upto legalTableSpec)

end Rows
end Go.Proofs.Ytpndiobbogelpaa
