/- EvictNone: its call, reckoned by the kernel over the plain evaluator. -/
import Derived.KernelRfl
import Derived.Test.YtigfokpgohaniaaGreatDoorEvT
import Derived.Test.YtigfokpgohaniaaGreatDoorShelf
namespace Go.Proofs.YtigfokpgohaniaaGreatDoor
open Go Go.Ev Go.RowKit

noncomputable def prim (f : FuncId) : Option (List AV → AH → Res) := bif Nat.beq f 85 then some repP else none
theorem primOk : PrimOk Tryz.prog 3 3 prim := by
  intro f g h
  unfold prim at h
  cases hb : Nat.beq f 85
  · rw [hb] at h; cases h
  · have hf : f = 85 := Nat.eq_of_beq_eq_true hb
    subst hf
    cases h
    exact repP_ok Tryz.func85 (by kernel_rfl) (by kernel_rfl) fun s c w h1 h2 => Tryz.strings_Repeat s c w h1 h2

theorem EvictNone_run (x : Int) : (callE Tryz.prog 3 3 100000 prim 300 3 [.int .i64 x] ⟨.nil, 3⟩).map (·.1) = some (.bool true) := by kernel_rfl

theorem EvictNone_walk (x : Int) (w : World) : Calls Tryz.prog 3 #[.int .i64 x] w fun e w' => e = .returned (.bool true) ∧ Below w.heap.size w w' :=
  law_calls primOk Tryz.func3 (by kernel_rfl) (by kernel_rfl) (EvictNone_run x) rfl w (.one (.int _ _))
end Go.Proofs.YtigfokpgohaniaaGreatDoor
