-- Printed by a program of this session (wip/gen) out of the translation; contracts by hand stand in other texts.
import Derived.Test.YtbfdbleancempaaProg
import Derived.Below
import Derived.Deep.Draws
import Derived.Deep.AppendLies
import Derived.Maps.AppendAt
import Derived.OwnWalk
import Derived.Laws.BytesArg
import Derived.Laws.MakeOwn
import Derived.Laws.OwnMore
import Derived.Deep.OwnRows
import Derived.Tactics
import Derived.Lib.ConvBytes
import Derived.Laws.Slices
import Derived.WalkKit
import Derived.KernelRfl
import Derived.RowKit3
import Derived.Deep.LoopGhost
import Derived.Deep.QuietTactic
import Derived.BigQuiet
import Derived.WideLaws
import Derived.Deep.DeepCutAuto
import Derived.Deep.CutBlock
import Derived.Deep.RegionHeld3
import Derived.Laws.Rows
import Derived.Lib.AppendStr
import Derived.ArgAppend
import Derived.Laws.IdiomCopy
import Derived.OrdersHeld
import Derived.Laws.BitsLemmas
import Derived.RowKit
import Derived.Test.YtbfdbleancempaaHName
import Derived.Test.YtbfdbleancempaaWWords
import Derived.Test.YtbfdbleancempaaWLast
import Derived.Test.YtbfdbleancempaaWTab
import Derived.Test.YtbfdbleancempaaWFour
import Derived.Test.YtbfdbleancempaaWQPut
import Derived.Test.YtbfdbleancempaaWApart
import Derived.Test.YtbfdbleancempaaWArr
import Derived.Test.YtbfdbleancempaaWZeros
import Derived.Test.YtbfdbleancempaaWFoot
import Derived.Test.YtbfdbleancempaaWKept
import Derived.Test.YtbfdbleancempaaWShare
import Derived.Test.YtbfdbleancempaaWN
import Derived.Test.YtbfdbleancempaaWFootNe
import Derived.Test.YtbfdbleancempaaWAt
import Derived.Test.YtbfdbleancempaaWEqStruct
import Derived.Test.YtbfdbleancempaaWRepsOne
import Derived.Test.YtbfdbleancempaaWInv
import Derived.Test.YtbfdbleancempaaWInvWords
import Derived.Test.YtbfdbleancempaaWGuard
import Derived.Test.YtbfdbleancempaaWNEv
import Derived.Test.YtbfdbleancempaaWMore
namespace Go.Proofs.Ytbfdbleancempaa.PCodesBack
open Go.RowKit Go.Proofs.YtbfdbleancempaaW.PrintWords Go.Proofs.YtbfdbleancempaaW.PrintLast Go.Proofs.YtbfdbleancempaaW.PrintMore
attribute [local go_sem] max2_int min2_int max_two min_two max_three min_three max_four min_four   -- for this text's walks alone
set_option linter.unusedVariables false
set_option linter.unusedSimpArgs false



def errW : Option Int → Value
  | none => .nilIface
  | some c => .iface 0 (.int .i64 c)
theorem errW_none : errW none = .nilIface := rfl
theorem errW_some (c : Int) : errW (some c) = .iface 0 (.int .i64 c) := rfl

-- the values' own types

end Go.Proofs.Ytbfdbleancempaa.PCodesBack
