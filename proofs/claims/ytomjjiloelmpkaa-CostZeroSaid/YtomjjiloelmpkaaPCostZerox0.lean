-- Written by wip/tools/xprint.py over the kit's print; hand-proved contracts inlined.
import Derived.Test.YtomjjiloelmpkaaProg
import Derived.Below
import Derived.Deep.Draws
import Derived.Deep.AppendLies
import Derived.Maps.AppendAt
import Derived.OwnWalk
import Derived.Laws.BytesArg
import Derived.Laws.MakeOwn
import Derived.Laws.OwnMore
import Derived.Deep.OwnRows
import Derived.Tactics
import Derived.Lib.ConvBytes
import Derived.Laws.Slices
import Derived.WalkKit
import Derived.KernelRfl
import Derived.RowKit3
import Derived.Deep.LoopGhost
import Derived.Deep.QuietTactic
import Derived.BigQuiet
import Derived.WideLaws
import Derived.Deep.DeepCutAuto
import Derived.Deep.CutBlock
import Derived.Deep.RegionHeld3
import Derived.Laws.Rows
import Derived.Lib.AppendStr
import Derived.ArgAppend
import Derived.Laws.IdiomCopy
import Derived.OrdersHeld
import Derived.Laws.BitsLemmas
import Derived.RowKit
import Derived.Test.YtomjjiloelmpkaaWWords
import Derived.Test.YtomjjiloelmpkaaWLast
import Derived.Test.YtomjjiloelmpkaaWTab
import Derived.Test.YtomjjiloelmpkaaWFour
import Derived.Test.YtomjjiloelmpkaaWQPut
import Derived.Test.YtomjjiloelmpkaaWApart
import Derived.Test.YtomjjiloelmpkaaWArr
import Derived.Test.YtomjjiloelmpkaaWZeros
import Derived.Test.YtomjjiloelmpkaaWFoot
import Derived.Test.YtomjjiloelmpkaaWKept
import Derived.Test.YtomjjiloelmpkaaWShare
import Derived.Test.YtomjjiloelmpkaaWN
import Derived.Test.YtomjjiloelmpkaaWFootNe
import Derived.Test.YtomjjiloelmpkaaWAt
import Derived.Test.YtomjjiloelmpkaaWEqStruct
import Derived.Test.YtomjjiloelmpkaaWRepsOne
import Derived.Test.YtomjjiloelmpkaaWInv
import Derived.Test.YtomjjiloelmpkaaWInvWords
import Derived.Test.YtomjjiloelmpkaaWGuard
import Derived.Test.YtomjjiloelmpkaaWNEv
import Derived.Test.YtomjjiloelmpkaaWMore
namespace Go.Proofs.Ytomjjiloelmpkaa.PCostZero
open Go.RowKit Go.Proofs.YtomjjiloelmpkaaW.PrintWords Go.Proofs.YtomjjiloelmpkaaW.PrintLast Go.Proofs.YtomjjiloelmpkaaW.PrintMore
attribute [local go_sem] max2_int min2_int max_two min_two max_three min_three max_four min_four   -- for this text's walks alone
set_option linter.unusedVariables false
set_option linter.unusedSimpArgs false



def errW : Option Int → Value
  | none => .nilIface
  | some c => .iface 0 (.int .i64 c)
theorem errW_none : errW none = .nilIface := rfl
theorem errW_some (c : Int) : errW (some c) = .iface 0 (.int .i64 c) := rfl

theorem info3 : (Try.prog.info? 3).map (fun i => (i.zero, i.size, i.bytes)) = some (some (.int .i64 0), 1, 8) := by kernel_rfl
-- the values' own types

end Go.Proofs.Ytomjjiloelmpkaa.PCostZero
