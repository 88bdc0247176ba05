-- Written by wip/tools/xprint.py over the kit's print; hand-proved contracts inlined.
import Derived.Test.YtnfodfacilmgeaaDoorProg
import Derived.Below
import Derived.Deep.Draws
import Derived.Deep.AppendLies
import Derived.Maps.AppendAt
import Derived.OwnWalk
import Derived.Laws.BytesArg
import Derived.Laws.MakeOwn
import Derived.Laws.OwnMore
import Derived.Deep.OwnRows
import Derived.Tactics
import Derived.Lib.ConvBytes
import Derived.Laws.Slices
import Derived.WalkKit
import Derived.KernelRfl
import Derived.RowKit3
import Derived.Deep.LoopGhost
import Derived.Deep.QuietTactic
import Derived.BigQuiet
import Derived.WideLaws
import Derived.Deep.DeepCutAuto
import Derived.Deep.CutBlock
import Derived.Deep.RegionHeld3
import Derived.Laws.Rows
import Derived.Lib.AppendStr
import Derived.ArgAppend
import Derived.Laws.IdiomCopy
import Derived.OrdersHeld
import Derived.Laws.BitsLemmas
import Derived.RowKit
import Derived.Test.YtnfodfacilmgeaaDoorWWords
import Derived.Test.YtnfodfacilmgeaaDoorWLast
import Derived.Test.YtnfodfacilmgeaaDoorWTab
import Derived.Test.YtnfodfacilmgeaaDoorWFour
import Derived.Test.YtnfodfacilmgeaaDoorWQPut
import Derived.Test.YtnfodfacilmgeaaDoorWApart
import Derived.Test.YtnfodfacilmgeaaDoorWArr
import Derived.Test.YtnfodfacilmgeaaDoorWZeros
import Derived.Test.YtnfodfacilmgeaaDoorWFoot
import Derived.Test.YtnfodfacilmgeaaDoorWKept
import Derived.Test.YtnfodfacilmgeaaDoorWShare
import Derived.Test.YtnfodfacilmgeaaDoorWN
import Derived.Test.YtnfodfacilmgeaaDoorWFootNe
import Derived.Test.YtnfodfacilmgeaaDoorWAt
import Derived.Test.YtnfodfacilmgeaaDoorWEqStruct
import Derived.Test.YtnfodfacilmgeaaDoorWRepsOne
import Derived.Test.YtnfodfacilmgeaaDoorWInv
import Derived.Test.YtnfodfacilmgeaaDoorWInvWords
import Derived.Test.YtnfodfacilmgeaaDoorWGuard
import Derived.Test.YtnfodfacilmgeaaDoorWNEv
import Derived.Test.YtnfodfacilmgeaaDoorWMore
namespace Go.Proofs.YtnfodfacilmgeaaDoor.Pspan
open Go.RowKit Go.Proofs.YtnfodfacilmgeaaDoorW.PrintWords Go.Proofs.YtnfodfacilmgeaaDoorW.PrintLast Go.Proofs.YtnfodfacilmgeaaDoorW.PrintMore
attribute [local go_sem] max2_int min2_int max_two min_two max_three min_three max_four min_four   -- for this text's walks alone
set_option linter.unusedVariables false
set_option linter.unusedSimpArgs false



def errW : Option Int → Value
  | none => .nilIface
  | some c => .iface 0 (.int .i64 c)
theorem errW_none : errW none = .nilIface := rfl
theorem errW_some (c : Int) : errW (some c) = .iface 0 (.int .i64 c) := rfl

-- the values' own types

end Go.Proofs.YtnfodfacilmgeaaDoor.Pspan
