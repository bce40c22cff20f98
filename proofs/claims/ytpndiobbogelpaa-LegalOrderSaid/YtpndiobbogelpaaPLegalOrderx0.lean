-- Printed by a program of this session (wip/gen) out of the translation; contracts by hand stand in other texts.
import Derived.Test.YtpndiobbogelpaaProg
import Derived.Below
import Derived.Deep.Draws
import Derived.Deep.AppendLies
import Derived.Maps.AppendAt
import Derived.OwnWalk
import Derived.Laws.BytesArg
import Derived.Laws.MakeOwn
import Derived.Laws.OwnMore
import Derived.Deep.OwnRows
import Derived.Tactics
import Derived.Lib.ConvBytes
import Derived.Laws.Slices
import Derived.WalkKit
import Derived.KernelRfl
import Derived.RowKit3
import Derived.Deep.LoopGhost
import Derived.Deep.QuietTactic
import Derived.BigQuiet
import Derived.WideLaws
import Derived.Deep.DeepCutAuto
import Derived.Deep.CutBlock
import Derived.Deep.RegionHeld3
import Derived.Laws.Rows
import Derived.Lib.AppendStr
import Derived.ArgAppend
import Derived.Laws.IdiomCopy
import Derived.OrdersHeld
import Derived.Laws.BitsLemmas
import Derived.RowKit
import Derived.Test.YtpndiobbogelpaaHRefB
import Derived.Test.YtpndiobbogelpaaHCheck
import Derived.Test.YtpndiobbogelpaaWWords
import Derived.Test.YtpndiobbogelpaaWLast
import Derived.Test.YtpndiobbogelpaaWTab
import Derived.Test.YtpndiobbogelpaaWFour
import Derived.Test.YtpndiobbogelpaaWQPut
import Derived.Test.YtpndiobbogelpaaWApart
import Derived.Test.YtpndiobbogelpaaWArr
import Derived.Test.YtpndiobbogelpaaWZeros
import Derived.Test.YtpndiobbogelpaaWFoot
import Derived.Test.YtpndiobbogelpaaWKept
import Derived.Test.YtpndiobbogelpaaWShare
import Derived.Test.YtpndiobbogelpaaWN
import Derived.Test.YtpndiobbogelpaaWFootNe
import Derived.Test.YtpndiobbogelpaaWAt
import Derived.Test.YtpndiobbogelpaaWEqStruct
import Derived.Test.YtpndiobbogelpaaWRepsOne
import Derived.Test.YtpndiobbogelpaaWInv
import Derived.Test.YtpndiobbogelpaaWInvWords
import Derived.Test.YtpndiobbogelpaaWGuard
import Derived.Test.YtpndiobbogelpaaWNEv
import Derived.Test.YtpndiobbogelpaaWMore
namespace Go.Proofs.Ytpndiobbogelpaa.PLegalOrder
open Go.RowKit Go.Proofs.YtpndiobbogelpaaW.PrintWords Go.Proofs.YtpndiobbogelpaaW.PrintLast Go.Proofs.YtpndiobbogelpaaW.PrintMore
attribute [local go_sem] max2_int min2_int max_two min_two max_three min_three max_four min_four   -- for this text's walks alone
set_option linter.unusedVariables false
set_option linter.unusedSimpArgs false



def errW : Option Int → Value
  | none => .nilIface
  | some c => .iface 0 (.int .i64 c)
theorem errW_none : errW none = .nilIface := rfl
theorem errW_some (c : Int) : errW (some c) = .iface 0 (.int .i64 c) := rfl

theorem info3 : (Try.prog.info? 3).map (fun i => (i.zero, i.size, i.bytes)) = some (some (.int .i64 0), 1, 8) := by kernel_rfl
theorem info38 : (Try.prog.info? 38).map (fun i => (i.zero, i.size, i.bytes)) = some (some (.agg #[(.int .i64 0), (.slice none 0 0)]), 2, 32) := by kernel_rfl

end Go.Proofs.Ytpndiobbogelpaa.PLegalOrder
