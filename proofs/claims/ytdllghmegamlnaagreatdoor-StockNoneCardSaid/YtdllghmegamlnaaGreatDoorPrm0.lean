-- printed by a program of mine (pp.py) over the kit's print.py: several functions in one namespace, some of their callees proved by hand
import Derived.Test.YtdllghmegamlnaaGreatDoorProg
import Derived.Below
import Derived.Deep.Draws
import Derived.Deep.AppendLies
import Derived.Maps.AppendAt
import Derived.OwnWalk
import Derived.Laws.BytesArg
import Derived.Laws.MakeOwn
import Derived.Laws.OwnMore
import Derived.Deep.OwnRows
import Derived.Tactics
import Derived.Lib.ConvBytes
import Derived.Laws.Slices
import Derived.WalkKit
import Derived.KernelRfl
import Derived.RowKit3
import Derived.Deep.LoopGhost
import Derived.Deep.QuietTactic
import Derived.BigQuiet
import Derived.WideLaws
import Derived.Deep.DeepCutAuto
import Derived.Deep.CutBlock
import Derived.Deep.RegionHeld3
import Derived.Laws.Rows
import Derived.Lib.AppendStr
import Derived.ArgAppend
import Derived.Laws.IdiomCopy
import Derived.OrdersHeld
import Derived.Laws.BitsLemmas
import Derived.RowKit
import Derived.Test.YtdllghmegamlnaaGreatDoorWWords
import Derived.Test.YtdllghmegamlnaaGreatDoorWLast
import Derived.Test.YtdllghmegamlnaaGreatDoorWTab
import Derived.Test.YtdllghmegamlnaaGreatDoorWFour
import Derived.Test.YtdllghmegamlnaaGreatDoorWQPut
import Derived.Test.YtdllghmegamlnaaGreatDoorWApart
import Derived.Test.YtdllghmegamlnaaGreatDoorWArr
import Derived.Test.YtdllghmegamlnaaGreatDoorWZeros
import Derived.Test.YtdllghmegamlnaaGreatDoorWFoot
import Derived.Test.YtdllghmegamlnaaGreatDoorWKept
import Derived.Test.YtdllghmegamlnaaGreatDoorWShare
import Derived.Test.YtdllghmegamlnaaGreatDoorWN
import Derived.Test.YtdllghmegamlnaaGreatDoorWFootNe
import Derived.Test.YtdllghmegamlnaaGreatDoorWAt
import Derived.Test.YtdllghmegamlnaaGreatDoorWEqStruct
import Derived.Test.YtdllghmegamlnaaGreatDoorWRepsOne
import Derived.Test.YtdllghmegamlnaaGreatDoorWInv
import Derived.Test.YtdllghmegamlnaaGreatDoorWInvWords
import Derived.Test.YtdllghmegamlnaaGreatDoorWGuard
import Derived.Test.YtdllghmegamlnaaGreatDoorWNEv
import Derived.Test.YtdllghmegamlnaaGreatDoorWMore
namespace Go.Proofs.YtdllghmegamlnaaGreatDoor.Prm
open Go.RowKit Go.Proofs.YtdllghmegamlnaaGreatDoorW.PrintWords Go.Proofs.YtdllghmegamlnaaGreatDoorW.PrintLast Go.Proofs.YtdllghmegamlnaaGreatDoorW.PrintMore
attribute [local go_sem] max2_int min2_int max_two min_two max_three min_three max_four min_four   -- for this text's walks alone
set_option linter.unusedVariables false
set_option linter.unusedSimpArgs false



def errW : Option Int → Value
  | none => .nilIface
  | some c => .iface 0 (.int .i64 c)
theorem errW_none : errW none = .nilIface := rfl
theorem errW_some (c : Int) : errW (some c) = .iface 0 (.int .i64 c) := rfl

theorem info5 : (Tryz.prog.info? 5).map (fun i => (i.zero, i.size, i.bytes)) = some (some (.int .u8 0), 1, 1) := by kernel_rfl
-- the values' own types

end Go.Proofs.YtdllghmegamlnaaGreatDoor.Prm
