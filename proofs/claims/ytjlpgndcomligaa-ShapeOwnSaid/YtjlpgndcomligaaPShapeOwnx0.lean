-- Printed by a program of this session (wip/gen) out of the translation; contracts by hand stand in other texts.
import Derived.Test.YtjlpgndcomligaaProg
import Derived.Below
import Derived.Deep.Draws
import Derived.Deep.AppendLies
import Derived.Maps.AppendAt
import Derived.OwnWalk
import Derived.Laws.BytesArg
import Derived.Laws.MakeOwn
import Derived.Laws.OwnMore
import Derived.Deep.OwnRows
import Derived.Tactics
import Derived.Lib.ConvBytes
import Derived.Laws.Slices
import Derived.WalkKit
import Derived.KernelRfl
import Derived.RowKit3
import Derived.Deep.LoopGhost
import Derived.Deep.QuietTactic
import Derived.BigQuiet
import Derived.WideLaws
import Derived.Deep.DeepCutAuto
import Derived.Deep.CutBlock
import Derived.Deep.RegionHeld3
import Derived.Laws.Rows
import Derived.Lib.AppendStr
import Derived.ArgAppend
import Derived.Laws.IdiomCopy
import Derived.OrdersHeld
import Derived.Laws.BitsLemmas
import Derived.RowKit
import Derived.Test.YtjlpgndcomligaaHRefB
import Derived.Test.YtjlpgndcomligaaHPlaces
import Derived.Test.YtjlpgndcomligaaWWords
import Derived.Test.YtjlpgndcomligaaWLast
import Derived.Test.YtjlpgndcomligaaWTab
import Derived.Test.YtjlpgndcomligaaWFour
import Derived.Test.YtjlpgndcomligaaWQPut
import Derived.Test.YtjlpgndcomligaaWApart
import Derived.Test.YtjlpgndcomligaaWArr
import Derived.Test.YtjlpgndcomligaaWZeros
import Derived.Test.YtjlpgndcomligaaWFoot
import Derived.Test.YtjlpgndcomligaaWKept
import Derived.Test.YtjlpgndcomligaaWShare
import Derived.Test.YtjlpgndcomligaaWN
import Derived.Test.YtjlpgndcomligaaWFootNe
import Derived.Test.YtjlpgndcomligaaWAt
import Derived.Test.YtjlpgndcomligaaWEqStruct
import Derived.Test.YtjlpgndcomligaaWRepsOne
import Derived.Test.YtjlpgndcomligaaWInv
import Derived.Test.YtjlpgndcomligaaWInvWords
import Derived.Test.YtjlpgndcomligaaWGuard
import Derived.Test.YtjlpgndcomligaaWNEv
import Derived.Test.YtjlpgndcomligaaWMore
namespace Go.Proofs.Ytjlpgndcomligaa.PShapeOwn
open Go.RowKit Go.Proofs.YtjlpgndcomligaaW.PrintWords Go.Proofs.YtjlpgndcomligaaW.PrintLast Go.Proofs.YtjlpgndcomligaaW.PrintMore
attribute [local go_sem] max2_int min2_int max_two min_two max_three min_three max_four min_four   -- for this text's walks alone
set_option linter.unusedVariables false
set_option linter.unusedSimpArgs false



def errW : Option Int → Value
  | none => .nilIface
  | some c => .iface 0 (.int .i64 c)
theorem errW_none : errW none = .nilIface := rfl
theorem errW_some (c : Int) : errW (some c) = .iface 0 (.int .i64 c) := rfl

theorem info3 : (Try.prog.info? 3).map (fun i => (i.zero, i.size, i.bytes)) = some (some (.int .i64 0), 1, 8) := by kernel_rfl

end Go.Proofs.Ytjlpgndcomligaa.PShapeOwn
