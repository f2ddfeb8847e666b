/- strings.Builder's copyCheck at this dump. -/
import Derived.KernelRfl
import Derived.Test.YtcooafoheknhhaaGreatDoorEvX1
import Derived.Test.YtcooafoheknhhaaGreatDoorShelf
import Derived.WalkKit
import Derived.OwnWalk
namespace Go.Proofs.YtcooafoheknhhaaGreatDoor
open Go Go.Ev Go.RowKit
theorem sizeB : (Tryz.prog.info? 194).map (·.size) = some 2 := by kernel_rfl
theorem cellsB : Tryz.prog.cellsOf 194 = 2 := by kernel_rfl

set_option maxHeartbeats 1000000 in
set_option maxRecDepth 100000 in
theorem copyCheck_fresh (b N : Nat) (w : World) (h0 : w.cell? ⟨b, 0, none⟩ = some (.pointer none)) (hsh : w.shape? b = some (194, N)) (hN : 2 ≤ N) (hfz : w.frozen? ⟨b, 0, none⟩ = false) :
    Calls Tryz.prog 176 #[.pointer (some ⟨b, 0, none⟩)] w fun e w' => e = .returned (.tuple #[]) ∧ w' = w.setCell ⟨b, 0, none⟩ (.pointer (some ⟨b, 0, none⟩)) := by
  obtain ⟨j, hj, hjs⟩ := Option.map_eq_some_iff.1 sizeB
  have hlies : liesAt Tryz.prog Tryz.prog.depth 194 (N / Tryz.prog.cellsOf 194) 0 194 1 = true := lies_self _ (by rw [cellsB]; omega) (by rw [cellsB]; decide)
  go_enter Tryz.func176, Tryz.ntmps176
  go_wp2
  rw [Lib.run_to_unsafe w ⟨b, 0, none⟩ Tryz.underlying192 Tryz.underlying378 hj (by rw [hjs]; decide) hsh (by show 0 < N; omega)]
  simp only [Result.andThen]
  rw [Oper.upon_value]
  go_wp2
  rw [run_callFunc_extern Tryz.func236 (by kernel_rfl) (by kernel_rfl) (by kernel_rfl) (e := Extern.AbiNoEscape.same) (by kernel_rfl)]
  rw [Lib.run_noEscape]
  simp only [Result.andThen]
  rw [Oper.upon_value]
  go_wp2
  rw [Lib.run_from_unsafe w ⟨b, 0, none⟩ Tryz.underlying378 Tryz.underlying192 hj hsh hlies]
  simp only [Result.andThen]
  rw [Oper.upon_value]
  go_wp2
  go_end0
  exact ⟨rfl, rfl⟩

set_option maxHeartbeats 1000000 in
set_option maxRecDepth 100000 in
theorem copyCheck_used (b : Nat) (w : World) (h0 : w.cell? ⟨b, 0, none⟩ = some (.pointer (some ⟨b, 0, none⟩))) :
    Calls Tryz.prog 176 #[.pointer (some ⟨b, 0, none⟩)] w fun e w' => e = .returned (.tuple #[]) ∧ w' = w := by
  obtain ⟨j, hj, _⟩ := Option.map_eq_some_iff.1 sizeB
  go_enter Tryz.func176, Tryz.ntmps176
  go_wp2
  rw [Lib.run_neq_ptr_same w _ Tryz.underlying192 hj]
  go_wp2
  go_end0
  exact ⟨rfl, rfl⟩
end Go.Proofs.YtcooafoheknhhaaGreatDoor
