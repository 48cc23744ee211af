/- Plain functions of the checked program, each with the proof that the call comes to it: printed by the kit's program for this claim. -/
import Derived.Test.YtgfdfmgocijdgaaGreatDoorProg
import Derived.Below
import Derived.Deep.Draws
import Derived.Deep.AppendLies
import Derived.Maps.AppendAt
import Derived.OwnWalk
import Derived.Laws.BytesArg
import Derived.Laws.MakeOwn
import Derived.Laws.OwnMore
import Derived.Deep.OwnRows
import Derived.Tactics
import Derived.Lib.ConvBytes
import Derived.Laws.Slices
import Derived.WalkKit
import Derived.KernelRfl
import Derived.RowKit3
import Derived.Deep.LoopGhost
import Derived.Deep.QuietTactic
import Derived.BigQuiet
import Derived.WideLaws
import Derived.Deep.DeepCutAuto
import Derived.Deep.CutBlock
import Derived.Deep.RegionHeld3
import Derived.Laws.Rows
import Derived.Lib.AppendStr
import Derived.ArgAppend
import Derived.Laws.IdiomCopy
import Derived.OrdersHeld
import Derived.Laws.BitsLemmas
import Derived.RowKit
import Derived.Test.YtgfdfmgocijdgaaGreatDoorWWords
import Derived.Test.YtgfdfmgocijdgaaGreatDoorWLast
import Derived.Test.YtgfdfmgocijdgaaGreatDoorWTab
import Derived.Test.YtgfdfmgocijdgaaGreatDoorWQPut
import Derived.Test.YtgfdfmgocijdgaaGreatDoorWApart
import Derived.Test.YtgfdfmgocijdgaaGreatDoorWArr
import Derived.Test.YtgfdfmgocijdgaaGreatDoorWZeros
import Derived.Test.YtgfdfmgocijdgaaGreatDoorWFoot
import Derived.Test.YtgfdfmgocijdgaaGreatDoorWKept
import Derived.Test.YtgfdfmgocijdgaaGreatDoorWShare
import Derived.Test.YtgfdfmgocijdgaaGreatDoorWN
import Derived.Test.YtgfdfmgocijdgaaGreatDoorWRepsOne
import Derived.Test.YtgfdfmgocijdgaaGreatDoorWGuard
import Derived.Test.YtgfdfmgocijdgaaGreatDoorWNEv
import Derived.Test.YtgfdfmgocijdgaaGreatDoorWMore
namespace Go.Proofs.YtgfdfmgocijdgaaGreatDoor.PLitTexts
open Go.RowKit Go.Proofs.YtgfdfmgocijdgaaGreatDoorW.PrintWords Go.Proofs.YtgfdfmgocijdgaaGreatDoorW.PrintLast Go.Proofs.YtgfdfmgocijdgaaGreatDoorW.PrintMore
attribute [local go_sem] max2_int min2_int max_two min_two max_three min_three max_four min_four   -- for this text's walks alone
set_option linter.unusedVariables false
set_option linter.unusedSimpArgs false



def errW : Option Int → Value
  | none => .nilIface
  | some c => .iface 0 (.int .i64 c)
theorem errW_none : errW none = .nilIface := rfl
theorem errW_some (c : Int) : errW (some c) = .iface 0 (.int .i64 c) := rfl

theorem info5 : (Tryz.prog.info? 5).map (fun i => (i.zero, i.size, i.bytes)) = some (some (.int .u8 0), 1, 1) := by kernel_rfl
theorem info21 : (Tryz.prog.info? 21).map (fun i => (i.zero, i.size, i.bytes)) = some (some (.int .i32 0), 1, 4) := by kernel_rfl
theorem info53 : (Tryz.prog.info? 53).map (fun i => (i.zero, i.size, i.bytes)) = some (some (.int .u32 0), 1, 4) := by kernel_rfl
-- the values' own types

end Go.Proofs.YtgfdfmgocijdgaaGreatDoor.PLitTexts
