/-
  No cell of these rows narrows 'for every input' (looked for: loops, veiled, ifaces, maps, wideKeys, modest, calm, conditions, laid).
  DERIVED. THE GIVEN ROWS OF THIS SEAT. 5 by the template 'for every input the law returns true; each argument reads behind the call as it read before'; 0 by the template 'total and deterministic' (their statements: YtbfdbleancempaaTotals.lean).
  GIVEN WITH THE SEED: the statements are not yours to turn. If you find one false, say at which input.
  Laid BY PROGRAM, IN A SANDBOX (cutbox-rows.mjs): the forced cells as the released guide's own fill.sh prints them over the translation e3f43199ec1ff4db… (all of the seat's roots in one cut). By AI agents, Wed Nov 11 2026. No macro, syntax, notation, axiom, sorry.
-/
import Derived.Test.YtbfdbleancempaaChecked
import GoSem.Claim
import GoSem.ClaimJoined
import GoSem.ClaimMapViews
import Derived.JoinedTies
import Derived.KernelRfl
namespace Go.Proofs.Ytbfdbleancempaa
/- THE CELL 'sum', in the pinned program and in every row, IS THE sha256 OF THE DUMP (.gsa) THAT YtbfdbleancempaaProg.lean LOADS. Nothing in Lean hashes anything: it is a label: what it is worth is what the hold of that sum in a sandbox is worth. -/
noncomputable def Try.pinned : Pinned := { name := "ytbfdbleancempaa", sum := "e3f43199ec1ff4db580f39bcd5d74fc00564d4d37970693fb80394f3bbb555af", checked := Try.checked }
namespace Rows
def none {H : Type} : Left H := { results := [], args := [] }

/-- 'passepartoutlaw08.CodesNames': WHATEVER THE INPUT: true; the input reads as it did. -/
def codesNamesSpec : ChangeSpec := { name := "codesNames", fn := fun _ => fun
  | [d1, d2, d3] => { results := [.lit (.bool true)], args := [d1, d2, d3] }
  | _ => none }
def codesNamesRow : OpenClaim := { program := "ytbfdbleancempaa", sum := "e3f43199ec1ff4db580f39bcd5d74fc00564d4d37970693fb80394f3bbb555af", func := "passepartout/passepartoutlaw08.CodesNames", spec := "codesNames", unfollowed := true, recurses := true, apart := false }
def CodesNamesSaid : Prop := codesNamesRow.holds Try.pinned (OpenSpec.ofChange codesNamesSpec)

/-- ITS FALSE NEIGHBOUR: 'it returns false'. Refute it at one input. -/
def codesNamesWrong : ChangeSpec := { name := "codesNames", fn := fun _ => fun
  | [d1, d2, d3] => { results := [.lit (.bool false)], args := [d1, d2, d3] }
  | _ => none }
def CodesNamesWrongFalsely : Prop := codesNamesRow.holds Try.pinned (OpenSpec.ofChange codesNamesWrong)

/-- 'passepartoutlaw08.CodesGrease': WHATEVER THE INPUT: true; the input reads as it did. -/
def codesGreaseSpec : ChangeSpec := { name := "codesGrease", fn := fun _ => fun
  | [d] => { results := [.lit (.bool true)], args := [d] }
  | _ => none }
def codesGreaseRow : OpenClaim := { program := "ytbfdbleancempaa", sum := "e3f43199ec1ff4db580f39bcd5d74fc00564d4d37970693fb80394f3bbb555af", func := "passepartout/passepartoutlaw08.CodesGrease", spec := "codesGrease", unfollowed := true, recurses := true, apart := false }
def CodesGreaseSaid : Prop := codesGreaseRow.holds Try.pinned (OpenSpec.ofChange codesGreaseSpec)

/-- ITS FALSE NEIGHBOUR: 'it returns false'. Refute it at one input. -/
def codesGreaseWrong : ChangeSpec := { name := "codesGrease", fn := fun _ => fun
  | [d] => { results := [.lit (.bool false)], args := [d] }
  | _ => none }
def CodesGreaseWrongFalsely : Prop := codesGreaseRow.holds Try.pinned (OpenSpec.ofChange codesGreaseWrong)

/-- 'passepartoutlaw08.CodesApart': WHATEVER THE INPUT: true; the input reads as it did. -/
def codesApartSpec : ChangeSpec := { name := "codesApart", fn := fun _ => fun
  | [d1, d2, d3] => { results := [.lit (.bool true)], args := [d1, d2, d3] }
  | _ => none }
def codesApartRow : OpenClaim := { program := "ytbfdbleancempaa", sum := "e3f43199ec1ff4db580f39bcd5d74fc00564d4d37970693fb80394f3bbb555af", func := "passepartout/passepartoutlaw08.CodesApart", spec := "codesApart", unfollowed := true, recurses := true, apart := false }
def CodesApartSaid : Prop := codesApartRow.holds Try.pinned (OpenSpec.ofChange codesApartSpec)

/-- ITS FALSE NEIGHBOUR: 'it returns false'. Refute it at one input. -/
def codesApartWrong : ChangeSpec := { name := "codesApart", fn := fun _ => fun
  | [d1, d2, d3] => { results := [.lit (.bool false)], args := [d1, d2, d3] }
  | _ => none }
def CodesApartWrongFalsely : Prop := codesApartRow.holds Try.pinned (OpenSpec.ofChange codesApartWrong)

/-- 'passepartoutlaw08.CodesAll': WHATEVER THE INPUT: true; the input reads as it did. -/
def codesAllSpec : ChangeSpec := { name := "codesAll", fn := fun _ => fun
  | [d1, d2] => { results := [.lit (.bool true)], args := [d1, d2] }
  | _ => none }
def codesAllRow : OpenClaim := { program := "ytbfdbleancempaa", sum := "e3f43199ec1ff4db580f39bcd5d74fc00564d4d37970693fb80394f3bbb555af", func := "passepartout/passepartoutlaw08.CodesAll", spec := "codesAll", unfollowed := true, recurses := true, apart := false }
def CodesAllSaid : Prop := codesAllRow.holds Try.pinned (OpenSpec.ofChange codesAllSpec)

/-- ITS FALSE NEIGHBOUR: 'it returns false'. Refute it at one input. -/
def codesAllWrong : ChangeSpec := { name := "codesAll", fn := fun _ => fun
  | [d1, d2] => { results := [.lit (.bool false)], args := [d1, d2] }
  | _ => none }
def CodesAllWrongFalsely : Prop := codesAllRow.holds Try.pinned (OpenSpec.ofChange codesAllWrong)

/-- 'passepartoutlaw08.CodesBack': WHATEVER THE INPUT: true; the input reads as it did. -/
def codesBackSpec : ChangeSpec := { name := "codesBack", fn := fun _ => fun
  | [d1, d2, d3] => { results := [.lit (.bool true)], args := [d1, d2, d3] }
  | _ => none }
def codesBackRow : OpenClaim := { program := "ytbfdbleancempaa", sum := "e3f43199ec1ff4db580f39bcd5d74fc00564d4d37970693fb80394f3bbb555af", func := "passepartout/passepartoutlaw08.CodesBack", spec := "codesBack", unfollowed := true, recurses := true, apart := false }
def CodesBackSaid : Prop := codesBackRow.holds Try.pinned (OpenSpec.ofChange codesBackSpec)

/-- ITS FALSE NEIGHBOUR: 'it returns false'. Refute it at one input. -/
def codesBackWrong : ChangeSpec := { name := "codesBack", fn := fun _ => fun
  | [d1, d2, d3] => { results := [.lit (.bool false)], args := [d1, d2, d3] }
  | _ => none }
def CodesBackWrongFalsely : Prop := codesBackRow.holds Try.pinned (OpenSpec.ofChange codesBackWrong)

/- THE SECOND FORM. 'bulk': how many values and letters a reading holds, each counted each time it is reached (what is shared counts as often as it is met; a slice's spare places count too). A statement '..UptoSaid' is the law's where the arguments, and the package variables that the reading takes, are together of bulk at most 1048576: NARROWER than '..Said'. Prove '..Said' where nothing that the law and all that it calls make is longer than what came in: it says more and counts as full. Else prove '..UptoSaid'. A law counts once. -/
mutual
def uptoBulk {H : Type} : DataW H → Nat
  | .lit (.string bytes) => bytes.length + 1
  | .lit _ => 1
  | .nil => 1
  | .ptr d => uptoBulk d + 1
  | .slice elems spare => uptoBulkAll elems + uptoBulkAll spare + 1
  | .agg parts => uptoBulkAll parts + 1
  | .iface _ d => uptoBulk d + 1
  | .map entries => uptoBulkEntries entries + 1
  | .held _ => 1
def uptoBulkAll {H : Type} : List (DataW H) → Nat
  | [] => 0
  | d :: r => uptoBulk d + uptoBulkAll r
def uptoBulkEntries {H : Type} : List (Lit × DataW H) → Nat
  | [] => 0
  | x :: r => uptoBulkEntry x + uptoBulkEntries r
def uptoBulkEntry {H : Type} : Lit × DataW H → Nat
  | (.string bytes, d) => bytes.length + uptoBulk d + 1
  | (_, d) => uptoBulk d + 1
 end
def uptoSmall : (H : Type) → List (DataW H) → Bool := fun _ ds => decide (uptoBulkAll ds ≤ 1048576)
def OpenSpec.upto (s : _root_.Go.ChangeSpec) : _root_.Go.OpenSpec := { _root_.Go.OpenSpec.ofChange s with cond := some uptoSmall }

/-- 'passepartoutlaw08.CodesNames', WHERE WHAT IT READS IS OF BULK AT MOST 1048576: true; the input reads as it did. -/
def codesNamesUptoRow : OpenClaim := { program := "ytbfdbleancempaa", sum := "e3f43199ec1ff4db580f39bcd5d74fc00564d4d37970693fb80394f3bbb555af", func := "passepartout/passepartoutlaw08.CodesNames", spec := "codesNames", unfollowed := true, recurses := true, apart := false, narrowed := true }
def CodesNamesUptoSaid : Prop := codesNamesUptoRow.holds Try.pinned (OpenSpec.upto codesNamesSpec)

/-- 'passepartoutlaw08.CodesGrease', WHERE WHAT IT READS IS OF BULK AT MOST 1048576: true; the input reads as it did. -/
def codesGreaseUptoRow : OpenClaim := { program := "ytbfdbleancempaa", sum := "e3f43199ec1ff4db580f39bcd5d74fc00564d4d37970693fb80394f3bbb555af", func := "passepartout/passepartoutlaw08.CodesGrease", spec := "codesGrease", unfollowed := true, recurses := true, apart := false, narrowed := true }
def CodesGreaseUptoSaid : Prop := codesGreaseUptoRow.holds Try.pinned (OpenSpec.upto codesGreaseSpec)

/-- 'passepartoutlaw08.CodesApart', WHERE WHAT IT READS IS OF BULK AT MOST 1048576: true; the input reads as it did. -/
def codesApartUptoRow : OpenClaim := { program := "ytbfdbleancempaa", sum := "e3f43199ec1ff4db580f39bcd5d74fc00564d4d37970693fb80394f3bbb555af", func := "passepartout/passepartoutlaw08.CodesApart", spec := "codesApart", unfollowed := true, recurses := true, apart := false, narrowed := true }
def CodesApartUptoSaid : Prop := codesApartUptoRow.holds Try.pinned (OpenSpec.upto codesApartSpec)

/-- 'passepartoutlaw08.CodesAll', WHERE WHAT IT READS IS OF BULK AT MOST 1048576: true; the input reads as it did. -/
def codesAllUptoRow : OpenClaim := { program := "ytbfdbleancempaa", sum := "e3f43199ec1ff4db580f39bcd5d74fc00564d4d37970693fb80394f3bbb555af", func := "passepartout/passepartoutlaw08.CodesAll", spec := "codesAll", unfollowed := true, recurses := true, apart := false, narrowed := true }
def CodesAllUptoSaid : Prop := codesAllUptoRow.holds Try.pinned (OpenSpec.upto codesAllSpec)

/-- 'passepartoutlaw08.CodesBack', WHERE WHAT IT READS IS OF BULK AT MOST 1048576: true; the input reads as it did. -/
def codesBackUptoRow : OpenClaim := { program := "ytbfdbleancempaa", sum := "e3f43199ec1ff4db580f39bcd5d74fc00564d4d37970693fb80394f3bbb555af", func := "passepartout/passepartoutlaw08.CodesBack", spec := "codesBack", unfollowed := true, recurses := true, apart := false, narrowed := true }
def CodesBackUptoSaid : Prop := codesBackUptoRow.holds Try.pinned (OpenSpec.upto codesBackSpec)

end Rows
end Go.Proofs.Ytbfdbleancempaa
