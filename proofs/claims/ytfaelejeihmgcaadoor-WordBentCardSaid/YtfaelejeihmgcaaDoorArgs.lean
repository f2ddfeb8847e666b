/-
  An argument that is a slice of strings, as the printed contracts read it.
-/
import Derived.Test.YtfaelejeihmgcaaDoorLaid
import Derived.Test.YtfaelejeihmgcaaDoorWWords
import Derived.SliceStrings
import Derived.Carry
namespace Go.Proofs.YtfaelejeihmgcaaDoor
open Go.ChangeShapes Go.WideShapes Go.ChangeAt Go.WideMaps Go.ChangeMaps Go.RowKit Go.Proofs.YtfaelejeihmgcaaDoorW.PrintWords

theorem laidOut : laidOutB Tryd.prog = true := by kernel_rfl
theorem cells9 : Tryd.prog.cellsOf 9 = 1 := by kernel_rfl

set_option maxRecDepth 100000 in
theorem texts_arg {H : Type} {enc : TypeId × Value → H} {W : World} {b0 : Nat} {v : Value} {d : DataW H} {ps : List MemPlace} (hval : Value.okWide Tryd.prog W .any b0 22 v) (h : DataW.Trod enc Tryd.prog W 0 (fun _ => true) true 22 v d ps) :
    ∃ (A : Option Addr) (c : Nat) (l : List ByteArray), v = .slice A l.length c ∧ Kd.C Kd.string W A l.length l ∧ l.length ≤ c := by
  obtain ⟨a0, len, cap, rfl⟩ := okWide_slice Tryd.underlying22 hval
  obtain ⟨fuel, hf⟩ := h
  rcases open_strings Tryd.underlying22 Tryd.underlying9 cells9 hf with ⟨hcs, _⟩ | ⟨a, len', cap', ss, hcs, _, hle, hmx, hlen, _, hcell, _⟩
  · simp [Value.cells] at hcs
    obtain ⟨rfl, rfl, rfl⟩ := hcs
    exact ⟨none, 0, [], rfl, Kd.C_of_reads (enc := Value.string) (d := ByteArray.empty) ⟨rfl, by decide, fun hn => absurd hn (by decide)⟩, Nat.le_refl _⟩
  · simp [Value.cells] at hcs
    obtain ⟨rfl, rfl, rfl⟩ := hcs
    simp only [if_true] at hlen
    have e : (ss.take len).length = len := by rw [List.length_take]; omega
    refine ⟨some a, cap, ss.take len, by rw [e], Kd.C_of_reads (enc := Value.string) (d := ByteArray.empty) ⟨rfl, by rw [e]; unfold maxLen at hmx; omega, fun _ => ⟨a, rfl, fun j hj => ?_⟩⟩, by rw [e]; exact hle⟩
    rw [e] at hj
    rw [hcell j (by omega), List.getD_eq_getElem?_getD, List.getD_eq_getElem?_getD, List.getElem?_take_of_lt hj]

end Go.Proofs.YtfaelejeihmgcaaDoor
