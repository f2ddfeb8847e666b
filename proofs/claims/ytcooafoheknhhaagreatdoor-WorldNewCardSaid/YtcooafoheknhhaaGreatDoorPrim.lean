/- The functions that the plain evaluator does not walk into at this seat, and that they are as they are reckoned. -/
import Derived.KernelRfl
import Derived.Test.YtcooafoheknhhaaGreatDoorEvX1
import Derived.Test.YtcooafoheknhhaaGreatDoorBld
import Derived.Test.YtcooafoheknhhaaGreatDoorPrimsB
namespace Go.Proofs.YtcooafoheknhhaaGreatDoor
open Go Go.Ev Go.RowKit

noncomputable def prim (f : FuncId) : Option (List AV → AH → Res) :=
  bif Nat.beq f 156 then some repP else bif Nat.beq f 176 then some (ccP 3 194) else bif Nat.beq f 105 then some (strP 3 194 5) else bif Nat.beq f 250 then some cmpP else bif Nat.beq f 206 then some Prm.blankP else bif Nat.beq f 325 then some Prm.blankP else bif Nat.beq f 40 then some Prm.fillP else bif Nat.beq f 335 then some Prm.rcrcP else bif Nat.beq f 179 then some Prm.crcP else none
theorem prim_0 : Prim1 Tryz.prog 3 3 156 repP := by
  exact repP_ok Tryz.func156 (by kernel_rfl) (by kernel_rfl) fun s c w h1 h2 => Tryz.strings_Repeat s c w h1 h2
theorem prim_1 : Prim1 Tryz.prog 3 3 176 (ccP 3 194) := by
  exact ccP_ok Tryz.func176 (by kernel_rfl) (by kernel_rfl) copyCheck_fresh copyCheck_used
theorem prim_2 : Prim1 Tryz.prog 3 3 105 (strP 3 194 5) := by
  exact strP_ok Tryz.func105 (by kernel_rfl) (by kernel_rfl)
    (fun b g cap N l w h1 h2 h3 h4 h5 h6 h7 => str_at Tryz.lays169 Tryz.Builder_Extra_169 b g cap N l w h1 h2 h3 h4 h5 h6 h7)
    (fun b w h => str_nil Tryz.lays169 Tryz.Builder_Extra_169 b w h)
theorem prim_3 : Prim1 Tryz.prog 3 3 250 cmpP := by
  exact cmpP_ok fun a b w => by
    rw [run_callFunc_extern Tryz.func250 (by kernel_rfl) (by kernel_rfl) (by kernel_rfl) (e := Extern.BytealgCompare.compare) (by kernel_rfl), Lib.run_compareString]
    rfl
theorem prim_4 : Prim1 Tryz.prog 3 3 206 Prm.blankP := by
  exact Prm.blankP_ok Tryz.func206 (by kernel_rfl) (by kernel_rfl) fun s w h => Prm.frame_Blank.calls _ _ _ w (Prm.blank_f s (by omega))
theorem prim_5 : Prim1 Tryz.prog 3 3 325 Prm.blankP := by
  exact Prm.blankP_ok Tryz.func325 (by kernel_rfl) (by kernel_rfl) fun s w h => Prm.cachepotref1_Blank.calls _ _ _ w (Prm.rblank_f s (by omega))
theorem prim_6 : Prim1 Tryz.prog 3 3 40 Prm.fillP := by
  exact Prm.fillP_ok Tryz.func40 (by kernel_rfl) (by kernel_rfl) fun b n w h => Prm.cachepotref1_Fill.calls _ _ _ _ w (Prm.fill_f b n h)
theorem prim_7 : Prim1 Tryz.prog 3 3 335 Prm.rcrcP := by
  exact Prm.rcrcP_ok Tryz.func335 (by kernel_rfl) (by kernel_rfl) fun s w h => Prm.cachepotref1_Crc.calls _ _ _ w (Prm.crc_f s (by omega))
theorem prim_8 : Prim1 Tryz.prog 3 3 179 Prm.crcP := by
  exact Prm.crcP_ok Tryz.func179 (by kernel_rfl) (by kernel_rfl) fun b o n cap ls w h1 h2 h3 h4 h5 => Prm.Sum_calls b o n cap ls w h1 h2 h3 h4 h5
theorem pick1 {P : Program} {B WB : Nat} {f k : FuncId} {p g : List AV → AH → Res} {r : Option (List AV → AH → Res)} (hp : Prim1 P B WB k p) (hr : r = some g → Prim1 P B WB f g) (h : (bif Nat.beq f k then some p else r) = some g) : Prim1 P B WB f g := by
  cases h1 : Nat.beq f k
  · rw [h1] at h; exact hr h
  · rw [h1] at h
    obtain rfl := Nat.eq_of_beq_eq_true h1
    cases h
    exact hp
theorem primOk : PrimOk Tryz.prog 3 3 prim := fun f g h => pick1 prim_0 (fun h => pick1 prim_1 (fun h => pick1 prim_2 (fun h => pick1 prim_3 (fun h => pick1 prim_4 (fun h => pick1 prim_5 (fun h => pick1 prim_6 (fun h => pick1 prim_7 (fun h => pick1 prim_8 (fun h => (by cases h)) h) h) h) h) h) h) h) h) h
end Go.Proofs.YtcooafoheknhhaaGreatDoor
