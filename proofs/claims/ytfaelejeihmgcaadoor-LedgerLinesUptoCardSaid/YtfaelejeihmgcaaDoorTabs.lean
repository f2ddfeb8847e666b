/-
  What the laws of chapters 25, 26 need to know of the package-level tables: unicode/utf8's two tables lie in their blocks as their initialisers lay them; calls that make memory leave them alone.
-/
import Derived.Test.YtfaelejeihmgcaaDoorProg
import Derived.Below
import Derived.Shelf.Unicode.DecodeSlow
namespace Go.Proofs.YtfaelejeihmgcaaDoor
open Go.RowKit

/-- The tables of unicode/utf8, as a walk needs them. -/
structure Tabs (w : World) : Prop where
  u : Lib.Utf8Tabs 2 3 w

theorem Tabs.below {w w1 : World} (h : Tabs w) (hb : Below w.heap.size w w1) : Tabs w1 := by
  obtain ⟨h1, h2⟩ := h.u
  have k : ∀ a v, w.cell? a = some v → w1.cell? a = some v := fun a v h => (hb.cell (World.block_lt_of_cell? w a h)).trans h
  exact ⟨⟨fun c hc => k _ _ (h1 c hc), fun i hi => ⟨k _ _ (h2 i hi).1, k _ _ (h2 i hi).2⟩⟩⟩

end Go.Proofs.YtfaelejeihmgcaaDoor
