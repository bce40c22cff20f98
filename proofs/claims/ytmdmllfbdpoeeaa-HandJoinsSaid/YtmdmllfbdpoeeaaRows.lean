/-
  No cell of these rows narrows 'for every input' (looked for: loops, veiled, ifaces, maps, wideKeys, modest, calm, conditions, laid).
  DERIVED. THE GIVEN ROWS OF THIS SEAT. 6 by the template 'for every input the law returns true; each argument reads behind the call as it read before'; 0 by the template 'total and deterministic' (their statements: YtmdmllfbdpoeeaaTotals.lean).
  GIVEN WITH THE SEED: the statements are not yours to turn. If you find one false, say at which input.
  Laid BY PROGRAM, IN A SANDBOX (cutbox-rows.mjs): the forced cells as the released guide's own fill.sh prints them over the translation 7898eb3419adb91f… (all of the seat's roots in one cut). By AI agents, Wed Nov 11 2026. No macro, syntax, notation, axiom, sorry.
-/
import Derived.Test.YtmdmllfbdpoeeaaChecked
import GoSem.Claim
import GoSem.ClaimJoined
import GoSem.ClaimMapViews
import Derived.JoinedTies
import Derived.KernelRfl
namespace Go.Proofs.Ytmdmllfbdpoeeaa
/- THE CELL 'sum', in the pinned program and in every row, IS THE sha256 OF THE DUMP (.gsa) THAT YtmdmllfbdpoeeaaProg.lean LOADS. Nothing in Lean hashes anything: it is a label: what it is worth is what the hold of that sum in a sandbox is worth. -/
noncomputable def Try.pinned : Pinned := { name := "ytmdmllfbdpoeeaa", sum := "7898eb3419adb91f4c84262a7b7e199772c23add0b736d41321e3238c37c6085", checked := Try.checked }
namespace Rows
def none {H : Type} : Left H := { results := [], args := [] }

/-- 'passepartoutlaw17.HandCuts': WHATEVER THE INPUT: true; the input reads as it did. -/
def handCutsSpec : ChangeSpec := { name := "handCuts", fn := fun _ => fun
  | [d1, d2, d3] => { results := [.lit (.bool true)], args := [d1, d2, d3] }
  | _ => none }
def handCutsRow : OpenClaim := { program := "ytmdmllfbdpoeeaa", sum := "7898eb3419adb91f4c84262a7b7e199772c23add0b736d41321e3238c37c6085", func := "passepartout/passepartoutlaw17.HandCuts", spec := "handCuts", unfollowed := true, recurses := true, apart := false }
def HandCutsSaid : Prop := handCutsRow.holds Try.pinned (OpenSpec.ofChange handCutsSpec)

/-- ITS FALSE NEIGHBOUR: 'it returns false'. Refute it at one input. -/
def handCutsWrong : ChangeSpec := { name := "handCuts", fn := fun _ => fun
  | [d1, d2, d3] => { results := [.lit (.bool false)], args := [d1, d2, d3] }
  | _ => none }
def HandCutsWrongFalsely : Prop := handCutsRow.holds Try.pinned (OpenSpec.ofChange handCutsWrong)

/-- 'passepartoutlaw17.HandWhole': WHATEVER THE INPUT: true; the input reads as it did. -/
def handWholeSpec : ChangeSpec := { name := "handWhole", fn := fun _ => fun
  | [d1, d2] => { results := [.lit (.bool true)], args := [d1, d2] }
  | _ => none }
def handWholeRow : OpenClaim := { program := "ytmdmllfbdpoeeaa", sum := "7898eb3419adb91f4c84262a7b7e199772c23add0b736d41321e3238c37c6085", func := "passepartout/passepartoutlaw17.HandWhole", spec := "handWhole", unfollowed := true, recurses := true, apart := false }
def HandWholeSaid : Prop := handWholeRow.holds Try.pinned (OpenSpec.ofChange handWholeSpec)

/-- ITS FALSE NEIGHBOUR: 'it returns false'. Refute it at one input. -/
def handWholeWrong : ChangeSpec := { name := "handWhole", fn := fun _ => fun
  | [d1, d2] => { results := [.lit (.bool false)], args := [d1, d2] }
  | _ => none }
def HandWholeWrongFalsely : Prop := handWholeRow.holds Try.pinned (OpenSpec.ofChange handWholeWrong)

/-- 'passepartoutlaw17.HandBytes': WHATEVER THE INPUT: true; the input reads as it did. -/
def handBytesSpec : ChangeSpec := { name := "handBytes", fn := fun _ => fun
  | [d1, d2] => { results := [.lit (.bool true)], args := [d1, d2] }
  | _ => none }
def handBytesRow : OpenClaim := { program := "ytmdmllfbdpoeeaa", sum := "7898eb3419adb91f4c84262a7b7e199772c23add0b736d41321e3238c37c6085", func := "passepartout/passepartoutlaw17.HandBytes", spec := "handBytes", unfollowed := true, recurses := true, apart := false }
def HandBytesSaid : Prop := handBytesRow.holds Try.pinned (OpenSpec.ofChange handBytesSpec)

/-- ITS FALSE NEIGHBOUR: 'it returns false'. Refute it at one input. -/
def handBytesWrong : ChangeSpec := { name := "handBytes", fn := fun _ => fun
  | [d1, d2] => { results := [.lit (.bool false)], args := [d1, d2] }
  | _ => none }
def HandBytesWrongFalsely : Prop := handBytesRow.holds Try.pinned (OpenSpec.ofChange handBytesWrong)

/-- 'passepartoutlaw17.HandPuts': WHATEVER THE INPUT: true; the input reads as it did. -/
def handPutsSpec : ChangeSpec := { name := "handPuts", fn := fun _ => fun
  | [d1, d2] => { results := [.lit (.bool true)], args := [d1, d2] }
  | _ => none }
def handPutsRow : OpenClaim := { program := "ytmdmllfbdpoeeaa", sum := "7898eb3419adb91f4c84262a7b7e199772c23add0b736d41321e3238c37c6085", func := "passepartout/passepartoutlaw17.HandPuts", spec := "handPuts", unfollowed := true, recurses := true, apart := false }
def HandPutsSaid : Prop := handPutsRow.holds Try.pinned (OpenSpec.ofChange handPutsSpec)

/-- ITS FALSE NEIGHBOUR: 'it returns false'. Refute it at one input. -/
def handPutsWrong : ChangeSpec := { name := "handPuts", fn := fun _ => fun
  | [d1, d2] => { results := [.lit (.bool false)], args := [d1, d2] }
  | _ => none }
def HandPutsWrongFalsely : Prop := handPutsRow.holds Try.pinned (OpenSpec.ofChange handPutsWrong)

/-- 'passepartoutlaw17.HandNone': WHATEVER THE INPUT: true; the input reads as it did. -/
def handNoneSpec : ChangeSpec := { name := "handNone", fn := fun _ => fun
  | [d1, d2] => { results := [.lit (.bool true)], args := [d1, d2] }
  | _ => none }
def handNoneRow : OpenClaim := { program := "ytmdmllfbdpoeeaa", sum := "7898eb3419adb91f4c84262a7b7e199772c23add0b736d41321e3238c37c6085", func := "passepartout/passepartoutlaw17.HandNone", spec := "handNone", unfollowed := true, recurses := true, apart := false }
def HandNoneSaid : Prop := handNoneRow.holds Try.pinned (OpenSpec.ofChange handNoneSpec)

/-- ITS FALSE NEIGHBOUR: 'it returns false'. Refute it at one input. -/
def handNoneWrong : ChangeSpec := { name := "handNone", fn := fun _ => fun
  | [d1, d2] => { results := [.lit (.bool false)], args := [d1, d2] }
  | _ => none }
def HandNoneWrongFalsely : Prop := handNoneRow.holds Try.pinned (OpenSpec.ofChange handNoneWrong)

/-- 'passepartoutlaw17.HandJoins': WHATEVER THE INPUT: true; the input reads as it did. -/
def handJoinsSpec : ChangeSpec := { name := "handJoins", fn := fun _ => fun
  | [d1, d2] => { results := [.lit (.bool true)], args := [d1, d2] }
  | _ => none }
def handJoinsRow : OpenClaim := { program := "ytmdmllfbdpoeeaa", sum := "7898eb3419adb91f4c84262a7b7e199772c23add0b736d41321e3238c37c6085", func := "passepartout/passepartoutlaw17.HandJoins", spec := "handJoins", unfollowed := true, recurses := true, apart := false }
def HandJoinsSaid : Prop := handJoinsRow.holds Try.pinned (OpenSpec.ofChange handJoinsSpec)

/-- ITS FALSE NEIGHBOUR: 'it returns false'. Refute it at one input. -/
def handJoinsWrong : ChangeSpec := { name := "handJoins", fn := fun _ => fun
  | [d1, d2] => { results := [.lit (.bool false)], args := [d1, d2] }
  | _ => none }
def HandJoinsWrongFalsely : Prop := handJoinsRow.holds Try.pinned (OpenSpec.ofChange handJoinsWrong)

/- THE SECOND FORM. 'bulk': how many values and letters a reading holds, each counted each time it is reached (what is shared counts as often as it is met; a slice's spare places count too). A statement '..UptoSaid' is the law's where the arguments, and the package variables that the reading takes, are together of bulk at most 1048576: NARROWER than '..Said'. Prove '..Said' where nothing that the law and all that it calls make is longer than what came in: it says more and counts as full. Else prove '..UptoSaid'. A law counts once. -/
mutual
def uptoBulk {H : Type} : DataW H → Nat
  | .lit (.string bytes) => bytes.length + 1
  | .lit _ => 1
  | .nil => 1
  | .ptr d => uptoBulk d + 1
  | .slice elems spare => uptoBulkAll elems + uptoBulkAll spare + 1
  | .agg parts => uptoBulkAll parts + 1
  | .iface _ d => uptoBulk d + 1
  | .map entries => uptoBulkEntries entries + 1
  | .held _ => 1
def uptoBulkAll {H : Type} : List (DataW H) → Nat
  | [] => 0
  | d :: r => uptoBulk d + uptoBulkAll r
def uptoBulkEntries {H : Type} : List (Lit × DataW H) → Nat
  | [] => 0
  | x :: r => uptoBulkEntry x + uptoBulkEntries r
def uptoBulkEntry {H : Type} : Lit × DataW H → Nat
  | (.string bytes, d) => bytes.length + uptoBulk d + 1
  | (_, d) => uptoBulk d + 1
 end
def uptoSmall : (H : Type) → List (DataW H) → Bool := fun _ ds => decide (uptoBulkAll ds ≤ 1048576)
def OpenSpec.upto (s : _root_.Go.ChangeSpec) : _root_.Go.OpenSpec := { _root_.Go.OpenSpec.ofChange s with cond := some uptoSmall }

/-- 'passepartoutlaw17.HandCuts', WHERE WHAT IT READS IS OF BULK AT MOST 1048576: true; the input reads as it did. -/
def handCutsUptoRow : OpenClaim := { program := "ytmdmllfbdpoeeaa", sum := "7898eb3419adb91f4c84262a7b7e199772c23add0b736d41321e3238c37c6085", func := "passepartout/passepartoutlaw17.HandCuts", spec := "handCuts", unfollowed := true, recurses := true, apart := false, narrowed := true }
def HandCutsUptoSaid : Prop := handCutsUptoRow.holds Try.pinned (OpenSpec.upto handCutsSpec)

/-- 'passepartoutlaw17.HandWhole', WHERE WHAT IT READS IS OF BULK AT MOST 1048576: true; the input reads as it did. -/
def handWholeUptoRow : OpenClaim := { program := "ytmdmllfbdpoeeaa", sum := "7898eb3419adb91f4c84262a7b7e199772c23add0b736d41321e3238c37c6085", func := "passepartout/passepartoutlaw17.HandWhole", spec := "handWhole", unfollowed := true, recurses := true, apart := false, narrowed := true }
def HandWholeUptoSaid : Prop := handWholeUptoRow.holds Try.pinned (OpenSpec.upto handWholeSpec)

/-- 'passepartoutlaw17.HandBytes', WHERE WHAT IT READS IS OF BULK AT MOST 1048576: true; the input reads as it did. -/
def handBytesUptoRow : OpenClaim := { program := "ytmdmllfbdpoeeaa", sum := "7898eb3419adb91f4c84262a7b7e199772c23add0b736d41321e3238c37c6085", func := "passepartout/passepartoutlaw17.HandBytes", spec := "handBytes", unfollowed := true, recurses := true, apart := false, narrowed := true }
def HandBytesUptoSaid : Prop := handBytesUptoRow.holds Try.pinned (OpenSpec.upto handBytesSpec)

/-- 'passepartoutlaw17.HandPuts', WHERE WHAT IT READS IS OF BULK AT MOST 1048576: true; the input reads as it did. -/
def handPutsUptoRow : OpenClaim := { program := "ytmdmllfbdpoeeaa", sum := "7898eb3419adb91f4c84262a7b7e199772c23add0b736d41321e3238c37c6085", func := "passepartout/passepartoutlaw17.HandPuts", spec := "handPuts", unfollowed := true, recurses := true, apart := false, narrowed := true }
def HandPutsUptoSaid : Prop := handPutsUptoRow.holds Try.pinned (OpenSpec.upto handPutsSpec)

/-- 'passepartoutlaw17.HandNone', WHERE WHAT IT READS IS OF BULK AT MOST 1048576: true; the input reads as it did. -/
def handNoneUptoRow : OpenClaim := { program := "ytmdmllfbdpoeeaa", sum := "7898eb3419adb91f4c84262a7b7e199772c23add0b736d41321e3238c37c6085", func := "passepartout/passepartoutlaw17.HandNone", spec := "handNone", unfollowed := true, recurses := true, apart := false, narrowed := true }
def HandNoneUptoSaid : Prop := handNoneUptoRow.holds Try.pinned (OpenSpec.upto handNoneSpec)

/-- 'passepartoutlaw17.HandJoins', WHERE WHAT IT READS IS OF BULK AT MOST 1048576: true; the input reads as it did. -/
def handJoinsUptoRow : OpenClaim := { program := "ytmdmllfbdpoeeaa", sum := "7898eb3419adb91f4c84262a7b7e199772c23add0b736d41321e3238c37c6085", func := "passepartout/passepartoutlaw17.HandJoins", spec := "handJoins", unfollowed := true, recurses := true, apart := false, narrowed := true }
def HandJoinsUptoSaid : Prop := handJoinsUptoRow.holds Try.pinned (OpenSpec.upto handJoinsSpec)

end Rows
end Go.Proofs.Ytmdmllfbdpoeeaa
