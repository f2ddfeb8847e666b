/-
  What the laws of chapter 21 (and 26) need to know of the package-level tables of strconv: the powers of ten lie as their initialiser lays them; calls that make memory leave them alone.
-/
import Derived.Test.YtfaelejeihmgcaaDoorProg
import Derived.Below
import Derived.Lib.ItoaMem
import Derived.Lib.LaidTab
namespace Go.Proofs.YtfaelejeihmgcaaDoor.Lgx
open Go.RowKit

/-- The table of the powers of ten, as a walk needs it. -/
structure Tabs (w : World) : Prop where
  p : Lib.TabIs Tryd.prog w "internal/strconv.uint64pow10" .u64 Lib.pow10Tab

theorem Tabs.below {w w1 : World} (h : Tabs w) (hb : Below w.heap.size w w1) : Tabs w1 := by
  obtain ⟨h⟩ := h
  refine ⟨?_⟩
  unfold Lib.TabIs World.var? at *
  have hg : Tryd.prog.globalNamed "internal/strconv.uint64pow10" = some 5 := by kernel_rfl
  rw [hg] at h ⊢
  simp only [Option.bind_some] at h ⊢
  have hlt : 5 < w.heap.size := by
    rcases Nat.lt_or_ge 5 w.heap.size with h' | h'
    · exact h'
    · rw [Array.getElem?_eq_none h'] at h; simp at h
  rw [hb.block 5 hlt]
  exact h

end Go.Proofs.YtfaelejeihmgcaaDoor.Lgx
