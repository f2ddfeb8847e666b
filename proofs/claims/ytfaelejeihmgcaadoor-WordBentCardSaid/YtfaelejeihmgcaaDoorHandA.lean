/-
  unicode/utf8.DecodeRuneInString, by the shelf's contract, in the form of the printed functions; facts on the model's decoder.
-/
import Derived.Test.YtfaelejeihmgcaaDoorTabs
import Derived.Test.YtfaelejeihmgcaaDoorShelf
import Derived.WalkKit
import Derived.KernelRfl
namespace Go.Proofs.YtfaelejeihmgcaaDoor.Wd
open Go.RowKit

def utf8_DecodeRuneInString.f (a0 : ByteArray) : Option (Int × Int) := some (((Lib.decodeGo a0).1 : Int), ((Lib.decodeGo a0).2 : Int))

theorem utf8_DecodeRuneInString.calls (a0 : ByteArray) (r1 : Int) (r2 : Int) (w : World) (h : utf8_DecodeRuneInString.f a0 = some (r1, r2)) (hT : Tabs w) :
    Calls Tryd.prog 63 #[.string a0] w fun e w' => e = .returned (.tuple #[.int .i32 r1, .int .i64 r2]) ∧ Below w.heap.size w w' := by
  simp only [utf8_DecodeRuneInString.f, Option.some.injEq, Prod.mk.injEq] at h
  obtain ⟨rfl, rfl⟩ := h
  exact Tryd.utf8_DecodeRuneInString a0 w hT.u

end Go.Proofs.YtfaelejeihmgcaaDoor.Wd
