-- printed by a program of mine (pp.py) over the kit's print.py: several functions in one namespace, some of their callees proved by hand
import Derived.Test.YtcooafoheknhhaaGreatDoorProg
import Derived.Below
import Derived.Deep.Draws
import Derived.Deep.AppendLies
import Derived.Maps.AppendAt
import Derived.OwnWalk
import Derived.Laws.BytesArg
import Derived.Laws.MakeOwn
import Derived.Laws.OwnMore
import Derived.Deep.OwnRows
import Derived.Tactics
import Derived.Lib.ConvBytes
import Derived.Laws.Slices
import Derived.WalkKit
import Derived.KernelRfl
import Derived.RowKit3
import Derived.Deep.LoopGhost
import Derived.Deep.QuietTactic
import Derived.BigQuiet
import Derived.WideLaws
import Derived.Deep.DeepCutAuto
import Derived.Deep.CutBlock
import Derived.Deep.RegionHeld3
import Derived.Laws.Rows
import Derived.Lib.AppendStr
import Derived.ArgAppend
import Derived.Laws.IdiomCopy
import Derived.OrdersHeld
import Derived.Laws.BitsLemmas
import Derived.RowKit
import Derived.Test.YtcooafoheknhhaaGreatDoorWWords
import Derived.Test.YtcooafoheknhhaaGreatDoorWLast
import Derived.Test.YtcooafoheknhhaaGreatDoorWTab
import Derived.Test.YtcooafoheknhhaaGreatDoorWFour
import Derived.Test.YtcooafoheknhhaaGreatDoorWQPut
import Derived.Test.YtcooafoheknhhaaGreatDoorWApart
import Derived.Test.YtcooafoheknhhaaGreatDoorWArr
import Derived.Test.YtcooafoheknhhaaGreatDoorWZeros
import Derived.Test.YtcooafoheknhhaaGreatDoorWFoot
import Derived.Test.YtcooafoheknhhaaGreatDoorWKept
import Derived.Test.YtcooafoheknhhaaGreatDoorWShare
import Derived.Test.YtcooafoheknhhaaGreatDoorWN
import Derived.Test.YtcooafoheknhhaaGreatDoorWFootNe
import Derived.Test.YtcooafoheknhhaaGreatDoorWAt
import Derived.Test.YtcooafoheknhhaaGreatDoorWEqStruct
import Derived.Test.YtcooafoheknhhaaGreatDoorWRepsOne
import Derived.Test.YtcooafoheknhhaaGreatDoorWInv
import Derived.Test.YtcooafoheknhhaaGreatDoorWInvWords
import Derived.Test.YtcooafoheknhhaaGreatDoorWGuard
import Derived.Test.YtcooafoheknhhaaGreatDoorWNEv
import Derived.Test.YtcooafoheknhhaaGreatDoorWMore
namespace Go.Proofs.YtcooafoheknhhaaGreatDoor.Pgm
open Go.RowKit Go.Proofs.YtcooafoheknhhaaGreatDoorW.PrintWords Go.Proofs.YtcooafoheknhhaaGreatDoorW.PrintLast Go.Proofs.YtcooafoheknhhaaGreatDoorW.PrintMore
attribute [local go_sem] max2_int min2_int max_two min_two max_three min_three max_four min_four   -- for this text's walks alone
set_option linter.unusedVariables false
set_option linter.unusedSimpArgs false



def errW : Option Int → Value
  | none => .nilIface
  | some c => .iface 0 (.int .i64 c)
theorem errW_none : errW none = .nilIface := rfl
theorem errW_some (c : Int) : errW (some c) = .iface 0 (.int .i64 c) := rfl

-- the values' own types

end Go.Proofs.YtcooafoheknhhaaGreatDoor.Pgm
