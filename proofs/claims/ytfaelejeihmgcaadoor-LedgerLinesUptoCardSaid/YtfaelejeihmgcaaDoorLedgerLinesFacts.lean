/-
  The closed facts of LedgerLines' second row, reckoned by the kernel.
-/
import Derived.Test.YtfaelejeihmgcaaDoorLaidL
namespace Go.Proofs.YtfaelejeihmgcaaDoor.LedgerLines
open Go.ChangeShapes Go.WideShapes Go.ChangeAt Go.WideMaps Go.ChangeMaps Go.RowKit Lgx

set_option maxHeartbeats 8000000 in
/-- each by itself: together they outgrow the kernel's lid -/
theorem closed : joinedFacts Tryd.pinned.checked.prog 9 Tryd.f9 (Rows.OpenSpec.upto Rows.ledgerLinesSpec).bare Rows.ledgerLinesUptoRow = true := by
  unfold joinedFacts
  repeat' (with_reducible refine Bool.and_eq_true_iff.mpr ⟨?_, ?_⟩)
  all_goals (as_aux_lemma => kernel_rfl)

end Go.Proofs.YtfaelejeihmgcaaDoor.LedgerLines
