/-
  The closed facts of WorldNew's first row, reckoned by the kernel.
-/
import Derived.Test.YtcooafoheknhhaaGreatDoorCards
import Derived.Test.YtcooafoheknhhaaGreatDoorTie
import Derived.Lib.LaidU8
import Derived.LaidMore
import Derived.Lay
import Derived.ProofKit
import Derived.OpenShut
import Derived.SevenTiedAt
import Derived.Stop.Joined
import Derived.Deep.DeepHandedRow
namespace Go.Proofs.YtcooafoheknhhaaGreatDoor.WorldNew
open Go.ChangeShapes Go.WideShapes Go.ChangeAt Go.RowKit

set_option maxHeartbeats 8000000 in
/-- each by itself: together they outgrow the kernel's lid -/
theorem closed : joinedFacts Tryz.pinned.checked.prog 6 Tryz.f6 (OpenSpec.ofChange Rows.worldNewSpec).bare Rows.worldNewRow = true := by
  unfold joinedFacts
  repeat' (with_reducible refine Bool.and_eq_true_iff.mpr ⟨?_, ?_⟩)
  all_goals (as_aux_lemma => kernel_rfl)

end Go.Proofs.YtcooafoheknhhaaGreatDoor.WorldNew
