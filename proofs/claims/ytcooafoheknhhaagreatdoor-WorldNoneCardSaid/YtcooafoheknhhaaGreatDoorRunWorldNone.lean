/- WorldNone: its call, reckoned by the kernel over the plain evaluator. -/
import Derived.Test.YtcooafoheknhhaaGreatDoorPrim
namespace Go.Proofs.YtcooafoheknhhaaGreatDoor
open Go Go.Ev Go.RowKit

theorem WorldNone_run (y0_0 y0_1 y0_2 y0_3 y0_4 y0_5 y0_6 y0_7 y0_8 y0_9 : Value) : (callE Tryz.prog 3 3 100000 prim 300 5 [.agg [.opq y0_0, .opq y0_1, .opq y0_2, .opq y0_3, .opq y0_4, .opq y0_5, .opq y0_6, .opq y0_7, .opq y0_8, .opq y0_9]] ⟨.nil, 3⟩).map (·.1) = some (.bool true) := by kernel_rfl

theorem WorldNone_walk (x0 : Array Value) (sz0 : x0.size = 10) (one0 : ∀ v ∈ x0.toList, v.oneCell' = true) (w : World) : Calls Tryz.prog 5 #[.agg x0] w fun e w' => e = .returned (.bool true) ∧ Below w.heap.size w w' := by
  obtain ⟨l0⟩ := x0
  obtain ⟨y0_0, y0_1, y0_2, y0_3, y0_4, y0_5, y0_6, y0_7, y0_8, y0_9, rfl⟩ : ∃ y0_0 y0_1 y0_2 y0_3 y0_4 y0_5 y0_6 y0_7 y0_8 y0_9, l0 = [y0_0, y0_1, y0_2, y0_3, y0_4, y0_5, y0_6, y0_7, y0_8, y0_9] := by
    match l0, sz0 with
    | [y0_0, y0_1, y0_2, y0_3, y0_4, y0_5, y0_6, y0_7, y0_8, y0_9], _ => exact ⟨y0_0, y0_1, y0_2, y0_3, y0_4, y0_5, y0_6, y0_7, y0_8, y0_9, rfl⟩
  exact law_calls primOk Tryz.func5 (by kernel_rfl) (by kernel_rfl) (WorldNone_run y0_0 y0_1 y0_2 y0_3 y0_4 y0_5 y0_6 y0_7 y0_8 y0_9) rfl w (.cons _ _ _ _ (.agg _ _ (.cons _ _ _ _ (.opq y0_0 (one0 y0_0 (by simp))) (.cons _ _ _ _ (.opq y0_1 (one0 y0_1 (by simp))) (.cons _ _ _ _ (.opq y0_2 (one0 y0_2 (by simp))) (.cons _ _ _ _ (.opq y0_3 (one0 y0_3 (by simp))) (.cons _ _ _ _ (.opq y0_4 (one0 y0_4 (by simp))) (.cons _ _ _ _ (.opq y0_5 (one0 y0_5 (by simp))) (.cons _ _ _ _ (.opq y0_6 (one0 y0_6 (by simp))) (.cons _ _ _ _ (.opq y0_7 (one0 y0_7 (by simp))) (.cons _ _ _ _ (.opq y0_8 (one0 y0_8 (by simp))) (.cons _ _ _ _ (.opq y0_9 (one0 y0_9 (by simp))) .nil))))))))))) .nil)
end Go.Proofs.YtcooafoheknhhaaGreatDoor
