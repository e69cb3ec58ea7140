-- PRINTED by print.py (a twelfth state) out of the translation. Not trusted: Lean checks it.
import Derived.Test.YtonjkoeacedaiaaDoorProg
import Derived.Below
import Derived.Deep.Draws
import Derived.Deep.AppendLies
import Derived.Maps.AppendAt
import Derived.OwnWalk
import Derived.Laws.BytesArg
import Derived.Laws.MakeOwn
import Derived.Laws.OwnMore
import Derived.Deep.OwnRows
import Derived.Tactics
import Derived.Lib.ConvBytes
import Derived.Laws.Slices
import Derived.WalkKit
import Derived.KernelRfl
import Derived.RowKit3
import Derived.Deep.LoopGhost
import Derived.Deep.QuietTactic
import Derived.BigQuiet
import Derived.WideLaws
import Derived.Deep.DeepCutAuto
import Derived.Deep.CutBlock
import Derived.Deep.RegionHeld3
import Derived.Laws.Rows
import Derived.Lib.AppendStr
import Derived.ArgAppend
import Derived.Laws.IdiomCopy
import Derived.OrdersHeld
import Derived.Laws.BitsLemmas
import Derived.RowKit
import Derived.Laws.Cover1
import Derived.Test.YtonjkoeacedaiaaDoorDcmp
import Derived.Test.YtonjkoeacedaiaaDoorWWords
import Derived.Test.YtonjkoeacedaiaaDoorWLast
import Derived.Test.YtonjkoeacedaiaaDoorWTab
import Derived.Test.YtonjkoeacedaiaaDoorWFour
import Derived.Test.YtonjkoeacedaiaaDoorWQPut
import Derived.Test.YtonjkoeacedaiaaDoorWApart
import Derived.Test.YtonjkoeacedaiaaDoorWArr
import Derived.Test.YtonjkoeacedaiaaDoorWZeros
import Derived.Test.YtonjkoeacedaiaaDoorWFoot
import Derived.Test.YtonjkoeacedaiaaDoorWKept
import Derived.Test.YtonjkoeacedaiaaDoorWShare
import Derived.Test.YtonjkoeacedaiaaDoorWN
import Derived.Test.YtonjkoeacedaiaaDoorWFootNe
import Derived.Test.YtonjkoeacedaiaaDoorWAt
import Derived.Test.YtonjkoeacedaiaaDoorWEqStruct
import Derived.Test.YtonjkoeacedaiaaDoorWRepsOne
import Derived.Test.YtonjkoeacedaiaaDoorWInv
import Derived.Test.YtonjkoeacedaiaaDoorWInvWords
import Derived.Test.YtonjkoeacedaiaaDoorWGuard
import Derived.Test.YtonjkoeacedaiaaDoorWNEv
import Derived.Test.YtonjkoeacedaiaaDoorWMore
namespace Go.Proofs.YtonjkoeacedaiaaDoor.U
open Go.RowKit Go.Proofs.YtonjkoeacedaiaaDoor.G Go.Proofs.YtonjkoeacedaiaaDoorW.PrintWords Go.Proofs.YtonjkoeacedaiaaDoorW.PrintLast Go.Proofs.YtonjkoeacedaiaaDoorW.PrintMore
attribute [local go_sem] max2_int min2_int max_two min_two max_three min_three max_four min_four   -- for this text's walks alone
set_option linter.unusedVariables false
set_option linter.unusedSimpArgs false



def errW : Option Int → Value
  | none => .nilIface
  | some c => .iface 0 (.int .i64 c)
theorem errW_none : errW none = .nilIface := rfl
theorem errW_some (c : Int) : errW (some c) = .iface 0 (.int .i64 c) := rfl

-- the values' own types

end Go.Proofs.YtonjkoeacedaiaaDoor.U
