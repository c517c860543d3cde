/- Functions told by our printer (out of the kit's) as plain Lean functions, and that the code comes to what they tell: no statement of the set is proved in this text. -/
import Derived.Test.YteohkpfacjjaeaaProg
import Derived.Below
import Derived.Deep.Draws
import Derived.Deep.AppendLies
import Derived.Maps.AppendAt
import Derived.OwnWalk
import Derived.Laws.BytesArg
import Derived.Laws.MakeOwn
import Derived.Laws.OwnMore
import Derived.Deep.OwnRows
import Derived.Tactics
import Derived.Lib.ConvBytes
import Derived.Laws.Slices
import Derived.WalkKit
import Derived.KernelRfl
import Derived.RowKit3
import Derived.Deep.LoopGhost
import Derived.Deep.QuietTactic
import Derived.BigQuiet
import Derived.WideLaws
import Derived.Deep.DeepCutAuto
import Derived.Deep.CutBlock
import Derived.Deep.RegionHeld3
import Derived.Laws.Rows
import Derived.Lib.AppendStr
import Derived.ArgAppend
import Derived.Laws.IdiomCopy
import Derived.OrdersHeld
import Derived.Laws.BitsLemmas
import Derived.RowKit
import Derived.Test.YteohkpfacjjaeaaWWords
import Derived.Test.YteohkpfacjjaeaaWLast
import Derived.Test.YteohkpfacjjaeaaWTab
import Derived.Test.YteohkpfacjjaeaaWFour
import Derived.Test.YteohkpfacjjaeaaWQPut
import Derived.Test.YteohkpfacjjaeaaWApart
import Derived.Test.YteohkpfacjjaeaaWArr
import Derived.Test.YteohkpfacjjaeaaWZeros
import Derived.Test.YteohkpfacjjaeaaWFoot
import Derived.Test.YteohkpfacjjaeaaWKept
import Derived.Test.YteohkpfacjjaeaaWShare
import Derived.Test.YteohkpfacjjaeaaWN
import Derived.Test.YteohkpfacjjaeaaWFootNe
import Derived.Test.YteohkpfacjjaeaaWAt
import Derived.Test.YteohkpfacjjaeaaWEqStruct
import Derived.Test.YteohkpfacjjaeaaWRepsOne
import Derived.Test.YteohkpfacjjaeaaWInv
import Derived.Test.YteohkpfacjjaeaaWInvWords
import Derived.Test.YteohkpfacjjaeaaWGuard
import Derived.Test.YteohkpfacjjaeaaWNEv
import Derived.Test.YteohkpfacjjaeaaWMore
namespace Go.Proofs.Yteohkpfacjjaeaa.MWire
open Go.RowKit Go.Proofs.YteohkpfacjjaeaaW.PrintWords Go.Proofs.YteohkpfacjjaeaaW.PrintLast Go.Proofs.YteohkpfacjjaeaaW.PrintMore
attribute [local go_sem] max2_int min2_int max_two min_two max_three min_three max_four min_four   -- for this text's walks alone
set_option linter.unusedVariables false
set_option linter.unusedSimpArgs false



def errW : Option Int → Value
  | none => .nilIface
  | some c => .iface 0 (.int .i64 c)
theorem errW_none : errW none = .nilIface := rfl
theorem errW_some (c : Int) : errW (some c) = .iface 0 (.int .i64 c) := rfl

theorem info3 : (Try.prog.info? 3).map (fun i => (i.zero, i.size, i.bytes)) = some (some (.int .i64 0), 1, 8) := by kernel_rfl
theorem info5 : (Try.prog.info? 5).map (fun i => (i.zero, i.size, i.bytes)) = some (some (.int .u8 0), 1, 1) := by kernel_rfl
-- the values' own types

end Go.Proofs.Yteohkpfacjjaeaa.MWire
