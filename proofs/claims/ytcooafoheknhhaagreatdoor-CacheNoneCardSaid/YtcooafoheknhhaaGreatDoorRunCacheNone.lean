/- CacheNone: its call, reckoned by the kernel over the plain evaluator. -/
import Derived.Test.YtcooafoheknhhaaGreatDoorPrim
namespace Go.Proofs.YtcooafoheknhhaaGreatDoor
open Go Go.Ev Go.RowKit

theorem CacheNone_run (k0 : Int) (k1 : List UInt8) (k2 : List UInt8) : (callE Tryz.prog 3 3 100000 prim 300 4 [.int .i64 k0, .str k1, .str k2] ⟨.nil, 3⟩).map (·.1) = some (.bool true) := by kernel_rfl

theorem CacheNone_walk (x0 : Int) (x1 : ByteArray) (x2 : ByteArray) (w : World) : Calls Tryz.prog 4 #[.int .i64 x0, .string x1, .string x2] w fun e w' => e = .returned (.bool true) ∧ Below w.heap.size w w' := by
  obtain ⟨⟨k1⟩⟩ := x1
  obtain ⟨⟨k2⟩⟩ := x2
  exact law_calls primOk Tryz.func4 (by kernel_rfl) (by kernel_rfl) (CacheNone_run x0 k1 k2) rfl w (.cons _ _ _ _ (.int _ _) (.cons _ _ _ _ (.str k1) (.cons _ _ _ _ (.str k2) .nil)))
end Go.Proofs.YtcooafoheknhhaaGreatDoor
