/- StoreNone: its call, reckoned by the kernel over the plain evaluator. -/
import Derived.Test.YtcooafoheknhhaaGreatDoorPrim
namespace Go.Proofs.YtcooafoheknhhaaGreatDoor
open Go Go.Ev Go.RowKit

theorem StoreNone_run (k0 : List UInt8) : (callE Tryz.prog 3 3 100000 prim 300 3 [.str k0] ⟨.nil, 3⟩).map (·.1) = some (.bool true) := by kernel_rfl

theorem StoreNone_walk (x0 : ByteArray) (w : World) : Calls Tryz.prog 3 #[.string x0] w fun e w' => e = .returned (.bool true) ∧ Below w.heap.size w w' := by
  obtain ⟨⟨k0⟩⟩ := x0
  exact law_calls primOk Tryz.func3 (by kernel_rfl) (by kernel_rfl) (StoreNone_run k0) rfl w (.cons _ _ _ _ (.str k0) .nil)
end Go.Proofs.YtcooafoheknhhaaGreatDoor
