/- StockNone: its call, reckoned by the kernel over the plain evaluator. -/
import Derived.Test.YtdllghmegamlnaaGreatDoorPrim
namespace Go.Proofs.YtdllghmegamlnaaGreatDoor
open Go Go.Ev Go.RowKit

theorem StockNone_run (k : List UInt8) (n m : Int) : (callE Tryz.prog 3 3 100000 prim 300 3 [.str k, .int .u32 n, .int .i64 m] ⟨.nil, 3⟩).map (·.1) = some (.bool true) := by kernel_rfl

theorem StockNone_walk (x : ByteArray) (n m : Int) (w : World) : Calls Tryz.prog 3 #[.string x, .int .u32 n, .int .i64 m] w fun e w' => e = .returned (.bool true) ∧ Below w.heap.size w w' := by
  obtain ⟨⟨l⟩⟩ := x
  exact law_calls primOk Tryz.func3 (by kernel_rfl) (by kernel_rfl) (StockNone_run l n m) rfl w (.cons _ _ _ _ (.str l) (.cons _ _ _ _ (.int _ _) (.cons _ _ _ _ (.int _ _) .nil)))
end Go.Proofs.YtdllghmegamlnaaGreatDoor
