-- printed by a program of mine (pp.py) over the kit's print.py: functions of the laws of chapter 25 in one namespace; some of their callees are proved by hand (YtfaelejeihmgcaaDoorHand..)
import Derived.Test.YtfaelejeihmgcaaDoorProg
import Derived.Test.YtfaelejeihmgcaaDoorTabs
import Derived.Below
import Derived.Deep.Draws
import Derived.Deep.AppendLies
import Derived.Maps.AppendAt
import Derived.OwnWalk
import Derived.Laws.BytesArg
import Derived.Laws.MakeOwn
import Derived.Laws.OwnMore
import Derived.Deep.OwnRows
import Derived.Tactics
import Derived.Lib.ConvBytes
import Derived.Laws.Slices
import Derived.WalkKit
import Derived.KernelRfl
import Derived.RowKit3
import Derived.Deep.LoopGhost
import Derived.Deep.QuietTactic
import Derived.BigQuiet
import Derived.WideLaws
import Derived.Deep.DeepCutAuto
import Derived.Deep.CutBlock
import Derived.Deep.RegionHeld3
import Derived.Laws.Rows
import Derived.Lib.AppendStr
import Derived.ArgAppend
import Derived.Laws.IdiomCopy
import Derived.OrdersHeld
import Derived.Laws.BitsLemmas
import Derived.RowKit
import Derived.Test.YtfaelejeihmgcaaDoorWWords
import Derived.Test.YtfaelejeihmgcaaDoorWLast
import Derived.Test.YtfaelejeihmgcaaDoorWTab
import Derived.Test.YtfaelejeihmgcaaDoorWFour
import Derived.Test.YtfaelejeihmgcaaDoorWQPut
import Derived.Test.YtfaelejeihmgcaaDoorWApart
import Derived.Test.YtfaelejeihmgcaaDoorWArr
import Derived.Test.YtfaelejeihmgcaaDoorWZeros
import Derived.Test.YtfaelejeihmgcaaDoorWFoot
import Derived.Test.YtfaelejeihmgcaaDoorWKept
import Derived.Test.YtfaelejeihmgcaaDoorWShare
import Derived.Test.YtfaelejeihmgcaaDoorWN
import Derived.Test.YtfaelejeihmgcaaDoorWFootNe
import Derived.Test.YtfaelejeihmgcaaDoorWAt
import Derived.Test.YtfaelejeihmgcaaDoorWEqStruct
import Derived.Test.YtfaelejeihmgcaaDoorWRepsOne
import Derived.Test.YtfaelejeihmgcaaDoorWInv
import Derived.Test.YtfaelejeihmgcaaDoorWInvWords
import Derived.Test.YtfaelejeihmgcaaDoorWGuard
import Derived.Test.YtfaelejeihmgcaaDoorWNEv
import Derived.Test.YtfaelejeihmgcaaDoorWMore
namespace Go.Proofs.YtfaelejeihmgcaaDoor.Wd
open Go.RowKit Go.Proofs.YtfaelejeihmgcaaDoorW.PrintWords Go.Proofs.YtfaelejeihmgcaaDoorW.PrintLast Go.Proofs.YtfaelejeihmgcaaDoorW.PrintMore
attribute [local go_sem] max2_int min2_int max_two min_two max_three min_three max_four min_four   -- for this text's walks alone
set_option linter.unusedVariables false
set_option linter.unusedSimpArgs false



def errW : Option Int → Value
  | none => .nilIface
  | some c => .iface 0 (.int .i64 c)
theorem errW_none : errW none = .nilIface := rfl
theorem errW_some (c : Int) : errW (some c) = .iface 0 (.int .i64 c) := rfl

theorem info5 : (Tryd.prog.info? 5).map (fun i => (i.zero, i.size, i.bytes)) = some (some (.int .u8 0), 1, 1) := by kernel_rfl
theorem info9 : (Tryd.prog.info? 9).map (fun i => (i.zero, i.size, i.bytes)) = some (some (.string ⟨#[]⟩), 1, 16) := by kernel_rfl
-- the values' own types

end Go.Proofs.YtfaelejeihmgcaaDoor.Wd
