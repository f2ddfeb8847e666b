/-
  What the row of LedgerLines lists (the powers of ten among it) gives the walks; a witness' world; how an event among the arguments reads.
-/
import Derived.Test.YtfaelejeihmgcaaDoorTabsL
import Derived.Test.YtfaelejeihmgcaaDoorOpn
import Derived.Test.YtfaelejeihmgcaaDoorLg0
import Derived.Test.YtfaelejeihmgcaaDoorCards
import Derived.Test.YtfaelejeihmgcaaDoorTie
import Derived.Lib.LaidU8
import Derived.LaidMore
import Derived.Lay
import Derived.ProofKit
import Derived.OpenShut
import Derived.SevenTiedAt
import Derived.Stop.Joined
import Derived.Deep.DeepHandedRow
import Derived.SliceStrings
import Derived.Carry
namespace Go.Proofs.YtfaelejeihmgcaaDoor.Lgx
open Go.ChangeShapes Go.WideShapes Go.ChangeAt Go.RowKit Go.Lib Go.Shelf Go.Proofs.YtfaelejeihmgcaaDoorW.PrintWords

theorem own : ownKnob Tryd.prog.godebug = none := by kernel_rfl
theorem laidOut : laidOutB Tryd.prog = true := by kernel_rfl

theorem tabIs_of_reads {P : Program} {W : World} {name : String} {k : IntKind} {zs : List Int} {g : Nat} {t e : TypeId} {n : Nat}
    (hg : P.globalNamed name = some g) (hty : (P.globals[g]?).map (·.type) = some t) (ht : P.underlying t = some (.array n e)) (he : P.underlying e = some (.int k)) (hce : P.cellsOf e = 1) (hct : P.cellsOf t = n)
    (h : VarReads P W name (tabData k zs)) : TabIs P W name k zs := by
  obtain ⟨g', t', cs, fuel, p, hg', ht', hvar, hd⟩ := h
  obtain rfl := Option.some.inj (hg.symm.trans hg')
  obtain rfl := Option.some.inj (hty.symm.trans ht')
  unfold TabIs
  rw [hvar, ← cells_of_tab ht he hce hct hd]

theorem pow_eq : (Rows.laid_internal_strconv_uint64pow10 : DataW Unit) = tabData .u64 Lib.pow10Tab := by kernel_rfl
theorem tabs_of_read {w : World} (h : VarReads Tryd.prog w "internal/strconv.uint64pow10" Rows.laid_internal_strconv_uint64pow10) : Tabs w :=
  ⟨tabIs_of_reads (g := 5) (t := 181) (e := 136) (n := 20) (by kernel_rfl) (by kernel_rfl) (by kernel_rfl) (by kernel_rfl) (by kernel_rfl) (by kernel_rfl) (pow_eq ▸ h)⟩

def laidLines : List (String × DataW Unit) := [("math/bits.deBruijn32tab", Rows.laid_math_bits_deBruijn32tab), ("math/bits.deBruijn64tab", Rows.laid_math_bits_deBruijn64tab), ("internal/strconv.uint64pow10", Rows.laid_internal_strconv_uint64pow10)]
theorem tabs_of_laid {w : World} (h : laidMetH Tryd.prog laidLines w) : Tabs w := by
  rw [MakeChecks.laidMetH_plain _ _ _ (by kernel_rfl)] at h
  exact tabs_of_read (laidMet.reads h (List.Mem.tail _ (List.Mem.tail _ (List.Mem.head _))))
theorem lines_met (os : Os) (args : Array Value) : laidMetH Tryd.prog laidLines ((World.laidAll Tryd.prog os laidLines).forCall (fun _ _ => 0) ⟨#[], args, []⟩).memory := by
  rw [MakeChecks.laidMetH_plain _ _ _ (by kernel_rfl)]
  exact laidMet_laidAll _ (by kernel_rfl) (by kernel_rfl)

/-! ### an event among the arguments -/
theorem c3 : Tryd.prog.cellsOf 3 = 1 := by kernel_rfl
theorem c4 : Tryd.prog.cellsOf 4 = 1 := by kernel_rfl
theorem c9 : Tryd.prog.cellsOf 9 = 1 := by kernel_rfl
theorem c22 : Tryd.prog.cellsOf 22 = 1 := by kernel_rfl
theorem c39 : Tryd.prog.cellsOf 39 = 1 := by kernel_rfl
theorem c40 : Tryd.prog.cellsOf 40 = 1 := by kernel_rfl
theorem c41 : Tryd.prog.cellsOf 41 = 1 := by kernel_rfl
theorem c43 : Tryd.prog.cellsOf 43 = 5 := by kernel_rfl
theorem c98 : Tryd.prog.cellsOf 98 = 4 := by kernel_rfl
theorem c101 : Tryd.prog.cellsOf 101 = 3 := by kernel_rfl

def f9 (N : Nat) (s : ByteArray) : Prop := s.size ≤ N ∧ s.size ≤ maxLen
def ok101 (N : Nat) (x : S101) : Prop := f9 N x.f0 ∧ True ∧ f9 N x.f2
def ok98 (N : Nat) (x : S98) : Prop := f9 N x.f0 ∧ True ∧ f9 N x.f2 ∧ (Lit.int .u32 x.f3).wf = true
def ok43 (N : Nat) (x : S43) : Prop := (Lit.int .i64 x.f0).wf = true ∧ (Lit.int .u32 x.f1).wf = true ∧ (x.f2.length ≤ N ∧ ∀ y ∈ x.f2, ok101 N y) ∧ (x.f3.length ≤ N ∧ ∀ y ∈ x.f3, ok98 N y) ∧ (x.f4.length ≤ N ∧ ∀ y ∈ x.f4, f9 N y)
theorem o9 : Opn.Opn Kd.string 9 f9 := Opn.string Tryd.underlying9 c9
theorem o4 : Opn.Opn Kd.bool 4 (fun _ _ => True) := Opn.bool Tryd.underlying4 c4
theorem o3 : Opn.Opn (Kd.int .i64) 3 (fun _ n => (Lit.int .i64 n).wf = true) := Opn.int Tryd.underlying3 c3
theorem o39 : Opn.Opn (Kd.int .u32) 39 (fun _ n => (Lit.int .u32 n).wf = true) := Opn.int Tryd.underlying39 c39
set_option maxRecDepth 100000 in
theorem o101 : Opn.Opn k101 101 ok101 :=
  Opn.struct (proj := fun x : S101 => (x.f0, x.f1, x.f2)) (Opn.OpnF.cons (f := { name := "Key", type := 9, offset := 0, embedded := false, tag := "", pkgPath := "", byteOffset := 0 }) o9 rfl rfl (Opn.OpnF.cons (f := { name := "Del", type := 4, offset := 1, embedded := false, tag := "", pkgPath := "", byteOffset := 16 }) o4 rfl rfl (Opn.OpnF.one (f := { name := "Val", type := 9, offset := 2, embedded := false, tag := "", pkgPath := "", byteOffset := 24 }) o9 rfl rfl))) Tryd.underlying101 c101 (fun y : ByteArray × Bool × ByteArray => (⟨y.1, y.2.1, y.2.2⟩ : S101)) (fun _ => rfl)
set_option maxRecDepth 100000 in
theorem o98 : Opn.Opn k98 98 ok98 :=
  Opn.struct (proj := fun x : S98 => (x.f0, x.f1, x.f2, x.f3)) (Opn.OpnF.cons (f := { name := "Key", type := 9, offset := 0, embedded := false, tag := "", pkgPath := "", byteOffset := 0 }) o9 rfl rfl (Opn.OpnF.cons (f := { name := "Is", type := 4, offset := 1, embedded := false, tag := "", pkgPath := "", byteOffset := 16 }) o4 rfl rfl (Opn.OpnF.cons (f := { name := "Val", type := 9, offset := 2, embedded := false, tag := "", pkgPath := "", byteOffset := 24 }) o9 rfl rfl (Opn.OpnF.one (f := { name := "From", type := 39, offset := 3, embedded := false, tag := "", pkgPath := "", byteOffset := 40 }) o39 rfl rfl)))) Tryd.underlying98 c98 (fun y : ByteArray × Bool × ByteArray × Int => (⟨y.1, y.2.1, y.2.2.1, y.2.2.2⟩ : S98)) (fun _ => rfl)
theorem o40 : Opn.Opn (Kd.slice 101 k101) 40 (fun N xs => xs.length ≤ N ∧ ∀ x ∈ xs, ok101 N x) := Opn.slice o101 Tryd.underlying40 c40
theorem o41 : Opn.Opn (Kd.slice 98 k98) 41 (fun N xs => xs.length ≤ N ∧ ∀ x ∈ xs, ok98 N x) := Opn.slice o98 Tryd.underlying41 c41
theorem o22 : Opn.Opn (Kd.slice 9 Kd.string) 22 (fun N xs => xs.length ≤ N ∧ ∀ x ∈ xs, f9 N x) := Opn.slice o9 Tryd.underlying22 c22
set_option maxRecDepth 100000 in
theorem o43 : Opn.Opn k43 43 ok43 :=
  Opn.struct (proj := fun x : S43 => (x.f0, x.f1, x.f2, x.f3, x.f4)) (Opn.OpnF.cons (f := { name := "Kind", type := 3, offset := 0, embedded := false, tag := "", pkgPath := "", byteOffset := 0 }) o3 rfl rfl (Opn.OpnF.cons (f := { name := "Seq", type := 39, offset := 1, embedded := false, tag := "", pkgPath := "", byteOffset := 8 }) o39 rfl rfl (Opn.OpnF.cons (f := { name := "Writes", type := 40, offset := 2, embedded := false, tag := "", pkgPath := "", byteOffset := 16 }) o40 rfl rfl (Opn.OpnF.cons (f := { name := "Answers", type := 41, offset := 3, embedded := false, tag := "", pkgPath := "", byteOffset := 40 }) o41 rfl rfl (Opn.OpnF.one (f := { name := "Keys", type := 22, offset := 4, embedded := false, tag := "", pkgPath := "", byteOffset := 64 }) o22 rfl rfl))))) Tryd.underlying43 c43 (fun y : Int × Int × List S101 × List S98 × List ByteArray => (⟨y.1, y.2.1, y.2.2.1, y.2.2.2.1, y.2.2.2.2⟩ : S43)) (fun _ => rfl)

set_option maxRecDepth 100000 in
/-- an event that came in -/
theorem event_arg {H : Type} {enc : TypeId × Value → H} {W : World} {b0 : Nat} {v : Value} {d : DataW H} {ps : List MemPlace} (hval : Value.okWide Tryd.prog W .any b0 43 v) (h : DataW.Trod enc Tryd.prog W 0 (fun _ => true) true 43 v d ps) :
    ∃ x A2 c2 A3 c3 A4 c4, v = .agg #[.int .i64 x.f0, .int .u32 x.f1, .slice A2 x.f2.length c2, .slice A3 x.f3.length c3, .slice A4 x.f4.length c4] ∧ x.f2.length ≤ c2 ∧ k101.C W A2 x.f2.length x.f2 ∧ x.f3.length ≤ c3 ∧ k98.C W A3 x.f3.length x.f3 ∧ x.f4.length ≤ c4 ∧ Kd.string.C W A4 x.f4.length x.f4 ∧ ok43 (Rows.uptoBulk d) x := by
  obtain ⟨cs, rfl, _⟩ := okWide_struct Tryd.underlying43 hval
  obtain ⟨fuel, hf⟩ := h
  obtain ⟨x, hK, hx⟩ := o43.opn hf
  obtain ⟨A2, c2, A3, c3, A4, c4, e, l2, g2, l3, g3, l4, g4⟩ := k43_open hK
  refine ⟨x, A2, c2, A3, c3, A4, c4, ?_, l2, g2, l3, g3, l4, g4, hx⟩
  have e2 : cs.toList = [.int .i64 x.f0, .int .u32 x.f1, .slice A2 x.f2.length c2, .slice A3 x.f3.length c3, .slice A4 x.f4.length c4] := e
  obtain ⟨l⟩ := cs
  simp only at e2
  rw [e2]

end Go.Proofs.YtfaelejeihmgcaaDoor.Lgx
