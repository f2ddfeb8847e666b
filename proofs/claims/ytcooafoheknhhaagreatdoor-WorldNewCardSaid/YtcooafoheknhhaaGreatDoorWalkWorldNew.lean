/- WorldNew's walk at the arguments as they come in. -/
import Derived.Test.YtcooafoheknhhaaGreatDoorWlaw
import Derived.WideShapes
namespace Go.Proofs.YtcooafoheknhhaaGreatDoor
open Go Go.RowKit Go.ChangeShapes Go.WideShapes
theorem int_cell' {P : Program} {t : TypeId} {w : World} {r : Reach} {base : Nat} {v : Value} (ht : P.underlying t = some (.int .i64)) (h : Cell.okWide P w r base t v) : ∃ n, v = .int .i64 n := by
  simp only [ht, Cell.okWide] at h
  cases v <;> simp_all [Cell.ok]
set_option maxRecDepth 100000 in
theorem int_cell {w : World} {r : Reach} {base : Nat} {v : Value} (h : Cell.okWide Tryz.prog w r base 3 v) : ∃ n, v = .int .i64 n :=
  int_cell' Tryz.underlying3 h
set_option maxRecDepth 100000 in
theorem WorldNew_walk (x0 : Array Value) (sz : x0.size = 3) (_ : ∀ v ∈ x0.toList, v.oneCell' = true) {W : World} {r : Reach} {base : Nat} (row : Row.okWide Tryz.prog W r base 73 x0) (x1 : ByteArray) (x2 : Bool) (w : World) :
    Calls Tryz.prog 6 #[.agg x0, .string x1, .bool x2] w fun e w' => e = .returned (.bool true) ∧ Below w.heap.size w w' := by
  obtain ⟨ts, h3, _, h5⟩ := row
  have ht : Tryz.prog.cellTypes Tryz.prog.depth 73 = some [3, 3, 3] := by kernel_rfl
  rw [ht] at h3
  obtain rfl := Option.some.inj h3
  obtain ⟨l⟩ := x0
  match l, sz with
  | [a, b, c], _ =>
    obtain ⟨u, hu, ha⟩ := h5 0 a rfl
    obtain ⟨v, hv, hb⟩ := h5 1 b rfl
    obtain ⟨x, hx, hc⟩ := h5 2 c rfl
    obtain rfl : 3 = u := Option.some.inj hu
    obtain rfl : 3 = v := Option.some.inj hv
    obtain rfl : 3 = x := Option.some.inj hx
    obtain ⟨p, rfl⟩ := int_cell ha
    obtain ⟨q, rfl⟩ := int_cell hb
    obtain ⟨s, rfl⟩ := int_cell hc
    exact Pgm.WorldNew_walk' p q s x1 x2 w
end Go.Proofs.YtcooafoheknhhaaGreatDoor
