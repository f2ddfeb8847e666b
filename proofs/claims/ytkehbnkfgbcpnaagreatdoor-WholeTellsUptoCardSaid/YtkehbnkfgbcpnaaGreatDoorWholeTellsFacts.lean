/-
  The closed facts of WholeTells' second row, reckoned by the kernel.
-/
import Derived.Test.YtkehbnkfgbcpnaaGreatDoorCards
import Derived.Test.YtkehbnkfgbcpnaaGreatDoorTie
import Derived.Lib.LaidU8
import Derived.LaidMore
import Derived.Lay
import Derived.ProofKit
import Derived.OpenShut
import Derived.SevenTiedAt
import Derived.Stop.Joined
import Derived.Deep.DeepHandedRow
namespace Go.Proofs.YtkehbnkfgbcpnaaGreatDoor.WholeTells
open Go.ChangeShapes Go.WideShapes Go.ChangeAt Go.WideMaps Go.ChangeMaps Go.RowKit

set_option maxHeartbeats 8000000 in
/-- each by itself: together they outgrow the kernel's lid -/
theorem closed : joinedFacts Tryz.pinned.checked.prog 3 Tryz.f3 (Rows.OpenSpec.upto Rows.wholeTellsSpec).bare Rows.wholeTellsUptoRow = true := by
  unfold joinedFacts
  repeat' (with_reducible refine Bool.and_eq_true_iff.mpr ⟨?_, ?_⟩)
  all_goals (as_aux_lemma => kernel_rfl)

end Go.Proofs.YtkehbnkfgbcpnaaGreatDoor.WholeTells
