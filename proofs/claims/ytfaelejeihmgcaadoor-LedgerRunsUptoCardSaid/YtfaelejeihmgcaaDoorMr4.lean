/-
  Texts of mine, and texts that print.sh and pp.py wrote, merged and cut to what is used: HandU, HandY, HandVs, HandV, HandRn, PureU, PureX, RowBd, WalkLR
-/
import Derived.Test.YtfaelejeihmgcaaDoorProg
import Derived.Below
import Derived.Lib.ItoaMem
import Derived.Lib.LaidTab
import Derived.Deep.Draws
import Derived.Deep.AppendLies
import Derived.Maps.AppendAt
import Derived.OwnWalk
import Derived.Laws.BytesArg
import Derived.Laws.MakeOwn
import Derived.Laws.OwnMore
import Derived.Deep.OwnRows
import Derived.Tactics
import Derived.Lib.ConvBytes
import Derived.Laws.Slices
import Derived.WalkKit
import Derived.KernelRfl
import Derived.RowKit3
import Derived.Deep.LoopGhost
import Derived.Deep.QuietTactic
import Derived.BigQuiet
import Derived.WideLaws
import Derived.Deep.DeepCutAuto
import Derived.Deep.CutBlock
import Derived.Deep.RegionHeld3
import Derived.Laws.Rows
import Derived.Lib.AppendStr
import Derived.ArgAppend
import Derived.Laws.IdiomCopy
import Derived.RowKit
import Derived.Test.YtfaelejeihmgcaaDoorRows
import Derived.ChangeArms
import Derived.DataReads
import Derived.DataElems
import Derived.OrdersHeld
import Derived.Laws.BitsLemmas
import Derived.Laws.StructEq
import Derived.Test.YtfaelejeihmgcaaDoorCards
import Derived.Test.YtfaelejeihmgcaaDoorTie
import Derived.Lib.LaidU8
import Derived.LaidMore
import Derived.Lay
import Derived.ProofKit
import Derived.OpenShut
import Derived.SevenTiedAt
import Derived.Stop.Joined
import Derived.Deep.DeepHandedRow
import Derived.SliceStrings
import Derived.Carry
import Derived.Shelf.Strconv.Itoa0
import Derived.Shelf.Strconv.Itoa1
import Derived.Shelf.LaysM
import Derived.Shelf.Strconv.Itoa2
import Derived.Lib.Strings
import Derived.Lib.Slices
import Derived.Lib.Walk
import Derived.Lib.Builder
import Derived.Lib.UnsafeStr
import Derived.Shelf.Strings.Builder1
import Derived.Shelf.Strings.OnBuilder
import Derived.Shelf.Unicode.DecodeSlow
import Derived.Shelf.Unicode.DecodeAny
import Derived.Laws.Externs
import Derived.Lib.DecodeNEq
import Derived.StillTailTactics
import Derived.Outline
import Derived.Lib.Hide
import Derived.IntWalk
import Derived.WalkSpells
import Derived.Tactics2
import Derived.Laws.Pointers
import Derived.Lib.AppendIntMem
import Derived.BigCall
import Derived.BigGuard
import Derived.FnData
import Derived.Deep.MidRow
import Derived.Maps.OwnSet
import Derived.StillTactics
import Derived.Test.YtfaelejeihmgcaaDoorMr0
import Derived.Test.YtfaelejeihmgcaaDoorMr1
import Derived.Test.YtfaelejeihmgcaaDoorMr2
import Derived.Test.YtfaelejeihmgcaaDoorMr3

section
namespace Go.Proofs.YtfaelejeihmgcaaDoor.Lgx
open Go.RowKit Go.Proofs.YtfaelejeihmgcaaDoorW.PrintWords Go.Proofs.YtfaelejeihmgcaaDoorW.PrintLast
theorem nil_own2 {g : Nat} : some g ≠ (Value.slice none 0 0).ownBlock := by simp [Value.ownBlock]
theorem size9 : (Tryd.prog.info? 9).map (·.size) = some 1 := by kernel_rfl
theorem size39 : (Tryd.prog.info? 39).map (·.size) = some 1 := by kernel_rfl
theorem size98' : (Tryd.prog.info? 98).map (·.size) = some 4 := by kernel_rfl
theorem size4 : (Tryd.prog.info? 4).map (·.size) = some 1 := by kernel_rfl
/-- one thing of an answer turned -/
def turn1 (x : S98) (q how : Int) : S98 :=
  if q = 0 then ⟨x.f0, !x.f1, x.f2, x.f3⟩ else if q = 1 then ⟨x.f0, x.f1, x.f2 ++ ⟨#[120]⟩, x.f3⟩ else if q = 2 then ⟨x.f0, x.f1, x.f2, IntKind.u32.wrap (x.f3 + 1)⟩
  else if q = 3 then ⟨nameAt (pickI (wrap64 (Int.tdiv how 5)) 12), x.f1, x.f2, x.f3⟩ else ⟨x.f0, false, ⟨#[]⟩, 0⟩
def turnedA (l : List S98) (at_ how : Int) : List S98 := l.set (pickI at_ l.length).toNat (turn1 (rd_T98 l (pickI at_ l.length)) (pickI how 5) how)
theorem turn1_0 (x : S98) (how : Int) : turn1 x 0 how = ⟨x.f0, !x.f1, x.f2, x.f3⟩ := rfl
theorem turn1_1 (x : S98) (how : Int) : turn1 x 1 how = ⟨x.f0, x.f1, x.f2 ++ ⟨#[120]⟩, x.f3⟩ := rfl
theorem turn1_2 (x : S98) (how : Int) : turn1 x 2 how = ⟨x.f0, x.f1, x.f2, IntKind.u32.wrap (x.f3 + 1)⟩ := rfl
theorem turn1_3 (x : S98) (how : Int) : turn1 x 3 how = ⟨nameAt (pickI (wrap64 (Int.tdiv how 5)) 12), x.f1, x.f2, x.f3⟩ := rfl
theorem turn1_4 (x : S98) (how : Int) : turn1 x 4 how = ⟨x.f0, false, ⟨#[]⟩, 0⟩ := rfl
set_option maxHeartbeats 16000000 in
set_option maxRecDepth 100000 in
theorem turned_some0 (f0 f1 : Int) (A2 : Option Addr) (n2 c2 : Nat) (A3 : Option Addr) (c3 : Nat) (l3 : List S98) (A4 : Option Addr) (n4 c4 : Nat) (at_ how : Int) (w : World) (hf : ¬ f0 = 1) (hn : 0 < l3.length) (hl3 : l3.length ≤ 1048576)
    (hC3 : Kd.C k98 w A3 l3.length l3) (hs3 : ∀ x ∈ l3, x.f2.size ≤ 1099511627776) (hu3 : ∀ x ∈ l3, 0 ≤ x.f3 ∧ x.f3 ≤ 4294967295) (hq : pickI how 5 = 0) :
    Calls Tryd.prog 71 #[.agg #[.int .i64 f0, .int .u32 f1, .slice A2 n2 c2, .slice A3 l3.length c3, .slice A4 n4 c4], .int .i64 at_, .int .i64 how] w fun e w' =>
      ∃ v3, e = .returned (.agg #[.int .i64 f0, .int .u32 f1, .slice A2 n2 c2, v3, .slice A4 n4 c4]) ∧ Kd.R k98 98 w' w.heap.size (fun _ => True) v3 (turnedA l3 at_ how) ∧ Below w.heap.size w w' := by
  have t1 : (f0 == 1) = false := beq_eq_false_iff_ne.2 hf
  have t2 : ((l3.length : Int) == 0) = false := beq_eq_false_iff_ne.2 (by omega)
  have hne : ¬ l3.length = 0 := by omega
  have hb1 := heap_alloc_new w (.cells #[.int .i64 f0, .int .u32 f1, .slice A2 n2 c2, .slice A3 l3.length c3, .slice A4 n4 c4] 43)
  have hw1 := below_alloc (Below.refl _ w) (.cells #[.int .i64 f0, .int .u32 f1, .slice A2 n2 c2, .slice A3 l3.length c3, .slice A4 n4 c4] 43)
  have hz1 : (w.alloc (.cells #[.int .i64 f0, .int .u32 f1, .slice A2 n2 c2, .slice A3 l3.length c3, .slice A4 n4 c4] 43)).heap.size = w.heap.size + 1 := by simp
  go_enter Tryd.func71, Tryd.ntmps71
  go_upto_region 1 with (fail)
  generalize w.alloc (.cells #[.int .i64 f0, .int .u32 f1, .slice A2 n2 c2, .slice A3 l3.length c3, .slice A4 n4 c4] 43) = w1 at hb1 hw1 hz1 ⊢
  have hb2 := heap_alloc_new w1 (.cells #[.int .i64 0, .int .u32 0, .slice none 0 0, .slice none 0 0, .slice none 0 0] 43)
  rw [hz1] at hb2
  have hb1' : (w1.alloc (.cells #[.int .i64 0, .int .u32 0, .slice none 0 0, .slice none 0 0, .slice none 0 0] 43)).heap[w.heap.size]? = some (.cells #[.int .i64 f0, .int .u32 f1, .slice A2 n2 c2, .slice A3 l3.length c3, .slice A4 n4 c4] 43) := by
    rw [Lib.alloc_old w1 _ _ (by omega)]; exact hb1
  have hw2 := below_alloc hw1 (.cells #[.int .i64 0, .int .u32 0, .slice none 0 0, .slice none 0 0, .slice none 0 0] 43)
  generalize w1.alloc (.cells #[.int .i64 0, .int .u32 0, .slice none 0 0, .slice none 0 0, .slice none 0 0] 43) = w2 at hb2 hb1' hw2 ⊢
  clear hb1 hw1 hz1
  have y0 : w2.cell? ⟨w.heap.size, 0, none⟩ = some (.int .i64 f0) := Lib.cell_of_heap hb1' 0
  have y1 : w2.cell? ⟨w.heap.size, 1, none⟩ = some (.int .u32 f1) := Lib.cell_of_heap hb1' 1
  have y2 : w2.cell? ⟨w.heap.size, 2, none⟩ = some (.slice A2 n2 c2) := Lib.cell_of_heap hb1' 2
  have y3 : w2.cell? ⟨w.heap.size, 3, none⟩ = some (.slice A3 l3.length c3) := Lib.cell_of_heap hb1' 3
  have y4 : w2.cell? ⟨w.heap.size, 4, none⟩ = some (.slice A4 n4 c4) := Lib.cell_of_heap hb1' 4
  have r0 : w2.cell? ⟨w.heap.size + 1, 0, none⟩ = some (.int .i64 0) := Lib.cell_of_heap hb2 0
  have r1 : w2.cell? ⟨w.heap.size + 1, 1, none⟩ = some (.int .u32 0) := Lib.cell_of_heap hb2 1
  have r2 : w2.cell? ⟨w.heap.size + 1, 2, none⟩ = some (.slice none 0 0) := Lib.cell_of_heap hb2 2
  have r3 : w2.cell? ⟨w.heap.size + 1, 3, none⟩ = some (.slice none 0 0) := Lib.cell_of_heap hb2 3
  have r4 : w2.cell? ⟨w.heap.size + 1, 4, none⟩ = some (.slice none 0 0) := Lib.cell_of_heap hb2 4
  have fr0 : w2.frozen? ⟨w.heap.size + 1, 0, none⟩ = false := Lib.frozen_of_heap hb2 0
  have fr1 : w2.frozen? ⟨w.heap.size + 1, 1, none⟩ = false := Lib.frozen_of_heap hb2 1
  have fr2 : w2.frozen? ⟨w.heap.size + 1, 2, none⟩ = false := Lib.frozen_of_heap hb2 2
  have fr3 : w2.frozen? ⟨w.heap.size + 1, 3, none⟩ = false := Lib.frozen_of_heap hb2 3
  have fr4 : w2.frozen? ⟨w.heap.size + 1, 4, none⟩ = false := Lib.frozen_of_heap hb2 4
  have fy1 : w2.frozen? ⟨w.heap.size, 1, none⟩ = false := Lib.frozen_of_heap hb1' 1
  have hCw : Kd.C k98 w2 A3 l3.length l3 := Kd.C_below hC3 hw2
  have hT1 : ReadsRow (k98.K w2) 4 w2 A3 l3.length l3 := hCw
  have hKM : ∀ (W : World) (x : S98) (cs : List Value), k98.K w2 x cs → k98.M W w.heap.size (fun _ => False) x cs := fun W x cs hK => by rw [k98_open hK]; exact k98_mkM _ _ _ _
  go_wp2_with (at_builtin; refine Kd.R_append_rows k98 (Rr := k98.K w2) (w0 := w) w.heap.size rfl (.const (.slice none 0 0)) (.tmp 27) 41 98 (.agg #[(.string ⟨#[]⟩), (.bool false), (.string ⟨#[]⟩), (.int .u32 0)]) 48 rfl Tryd.underlying41 info98 rfl (by decide) (by decide) (.slice none 0 0) [] l3 A3 l3.length c3 (fun k => k ≠ w.heap.size ∧ k ≠ w.heap.size + 1) (fun _ => False) rfl rfl (Kd.R_nil _ _ _ _ _) hT1 (hKM _) (fun _ h => h.elim) (fun k hk => ?fr) hw2 hw2.size ?aL ?_)
  case fr => exact ⟨by have := (Array.getElem?_eq_some_iff.1 hb1').1; omega, by have := (Array.getElem?_eq_some_iff.1 hb2).1; omega⟩
  case aL => simp only [List.length_nil]; omega
  intro v1 w3 hR1 hb3 hg3 _
  obtain ⟨g, cap, ev, hgb, hgl, cells, hgc⟩ := Kd.R_form hR1 hn
  subst ev
  have hgo := hR1.1 g (by simp [Value.ownBlock])
  have b1 : w3.heap[w.heap.size]? = some (.cells #[.int .i64 f0, .int .u32 f1, .slice A2 n2 c2, .slice A3 l3.length c3, .slice A4 n4 c4] 43) := (hg3.block _ (Array.getElem?_eq_some_iff.1 hb1').1 nil_own2).trans hb1'
  have b2 : w3.heap[w.heap.size + 1]? = some (.cells #[.int .i64 0, .int .u32 0, .slice none 0 0, .slice none 0 0, .slice none 0 0] 43) := (hg3.block _ (Array.getElem?_eq_some_iff.1 hb2).1 nil_own2).trans hb2
  clear y0 y1 y2 y3 y4 r0 r1 r2 r3 r4 fr0 fr1 fr2 fr3 fr4 fy1 hb1' hb2 hT1 hKM hg3 hgc cells hCw
  obtain ⟨i, hi⟩ : ∃ i : Nat, pickI at_ l3.length = i := ⟨(pickI at_ l3.length).toNat, by have := (pickI_in at_ l3.length (by omega) (by omega)).1; omega⟩
  have hil : i < l3.length := by have := (pickI_in at_ l3.length (by omega) (by omega)).2; omega
  have hp1 := fun W => pick_same at_ l3.length (by omega) (by omega) W
  have hp2 := fun W => pick_same how 5 (by decide) (by decide) W
  obtain ⟨q0, q1⟩ := pickI_in how 5 (by decide) (by decide)
  have hres : turnedA l3 at_ how = l3.set i (turn1 (rd_T98 l3 (i : Int)) (pickI how 5) how) := by unfold turnedA; rw [hi]; rfl
  rw [hi] at hp1
  obtain ⟨c, hcl, hcM, hcc, hcf⟩ := Kd.R_elem hR1 z98 (i : Int) (by omega) (by omega)
  obtain rfl := k98_openM hcM
  rw [show l3.getD ((i : Int).toNat) z98 = rd_T98 l3 (i : Int) from rfl] at hcM hcc
  rw [rd98 hil] at hcM hcc hres
  have hx2 := hs3 _ (List.getElem_mem hil)
  have hx3 := hu3 _ (List.getElem_mem hil)
  obtain ⟨x, hx⟩ : ∃ x, x = l3[i] := ⟨_, rfl⟩
  rw [← hx] at hcM hcc hx2 hx3 hres
  rw [hq] at hp2 q0 q1 hres
  have Hres := Lib.hid hres
  clear hx hq hres hi hcM
  obtain ⟨xk, xi, xv, xf⟩ := x
  have e0 : w3.cell? ⟨g, i * 4, none⟩ = some (.string xk) := hcc 0 _ rfl
  have e1 : w3.cell? ⟨g, i * 4 + 1, none⟩ = some (.bool xi) := hcc 1 _ rfl
  have e2 : w3.cell? ⟨g, i * 4 + 2, none⟩ = some (.string xv) := hcc 2 _ rfl
  have e3 : w3.cell? ⟨g, i * 4 + 3, none⟩ = some (.int .u32 xf) := hcc 3 _ rfl
  have Hcc := Lib.hid hcc
  clear hcc hcf
  go_wp2_with fail
  refine (hp1 _).mono ?_
  rintro e w4 ⟨rfl, rfl⟩
  go_wp2_with fail
  refine (hp2 _).mono ?_
  rintro e w5 ⟨rfl, rfl⟩
  go_wp2_with ((with_reducible refine gate_ (.store 4 (.tmp 53) (.tmp 51)) rfl ?_); refine Kd.R_store k98 (w0 := w) w.heap.size rfl rfl 4 (.tmp 53) (.tmp 51) rfl 98 (i : Int) 1 l3 ⟨xk, !xi, xv, xf⟩ (.bool !xi) [.bool !xi] [.string xk, .bool xi, .string xv, .int .u32 xf] (fun k => ¬k = w.heap.size ∧ ¬k = w.heap.size + 1) (fun _ => False) rfl rfl rfl rfl size4 (by simp [Value.oneCell']) hR1 (by omega) (by omega) rfl Hcc.out (Nat.le_of_ble_eq_true rfl) (k98_mkM _ _ _ ⟨xk, !xi, xv, xf⟩) (fun _ h => h.elim) hb3 ?_)
  intro w6 hR6 hb6 hg6
  have hl1 : w.heap.size < (w5).heap.size := by have := (Array.getElem?_eq_some_iff.1 b1).1; omega
  have d1 := (hg6.block _ (Array.getElem?_eq_some_iff.1 b1).1 (fun e => hgo.1 (Option.some.inj e).symm)).trans b1
  have d2 := (hg6.block _ (Array.getElem?_eq_some_iff.1 b2).1 (fun e => hgo.2 (Option.some.inj e).symm)).trans b2
  have y0 : w6.cell? ⟨w.heap.size, 0, none⟩ = some (.int .i64 f0) := Lib.cell_of_heap d1 0
  have y1 : w6.cell? ⟨w.heap.size, 1, none⟩ = some (.int .u32 f1) := Lib.cell_of_heap d1 1
  have y2 : w6.cell? ⟨w.heap.size, 2, none⟩ = some (.slice A2 n2 c2) := Lib.cell_of_heap d1 2
  have y3 : w6.cell? ⟨w.heap.size, 3, none⟩ = some (.slice A3 l3.length c3) := Lib.cell_of_heap d1 3
  have y4 : w6.cell? ⟨w.heap.size, 4, none⟩ = some (.slice A4 n4 c4) := Lib.cell_of_heap d1 4
  have fy3 : w6.frozen? ⟨w.heap.size, 3, none⟩ = false := Lib.frozen_of_heap d1 3
  have r0 : w6.cell? ⟨w.heap.size + 1, 0, none⟩ = some (.int .i64 0) := Lib.cell_of_heap d2 0
  have r1 : w6.cell? ⟨w.heap.size + 1, 1, none⟩ = some (.int .u32 0) := Lib.cell_of_heap d2 1
  have r2 : w6.cell? ⟨w.heap.size + 1, 2, none⟩ = some (.slice none 0 0) := Lib.cell_of_heap d2 2
  have r3 : w6.cell? ⟨w.heap.size + 1, 3, none⟩ = some (.slice none 0 0) := Lib.cell_of_heap d2 3
  have r4 : w6.cell? ⟨w.heap.size + 1, 4, none⟩ = some (.slice none 0 0) := Lib.cell_of_heap d2 4
  have fr0 : w6.frozen? ⟨w.heap.size + 1, 0, none⟩ = false := Lib.frozen_of_heap d2 0
  have fr1 : w6.frozen? ⟨w.heap.size + 1, 1, none⟩ = false := Lib.frozen_of_heap d2 1
  have fr2 : w6.frozen? ⟨w.heap.size + 1, 2, none⟩ = false := Lib.frozen_of_heap d2 2
  have fr3 : w6.frozen? ⟨w.heap.size + 1, 3, none⟩ = false := Lib.frozen_of_heap d2 3
  have fr4 : w6.frozen? ⟨w.heap.size + 1, 4, none⟩ = false := Lib.frozen_of_heap d2 4
  have hfin : l3.set i ⟨xk, !xi, xv, xf⟩ = turnedA l3 at_ how := by rw [Hres.out]; exact congrArg _ (turn1_0 ⟨xk, xi, xv, xf⟩ how).symm
  rw [show (i : Int).toNat = i from rfl, hfin] at hR6
  clear hfin d1 d2 hg6 hl1
  go_wp2
  refine bodyPost_ret (v := .agg #[.int .i64 f0, .int .u32 f1, .slice A2 n2 c2, .slice (some ⟨g, 0, none⟩) l3.length cap, .slice A4 n4 c4]) (by simp [results, Tryd.results71, go_sem, r0, r1, r2, r3, r4]) rfl ⟨_, rfl, ?_, ?_⟩
  · refine Kd.R_mono (ok := fun k => ¬k = w.heap.size ∧ ¬k = w.heap.size + 1) ?_ (fun _ _ => trivial)
    repeat (first | (with_reducible exact hR6) | (refine Kd.R_far ?_ (fun k hk => by first | exact hk.1 | exact hk.2) _))
  · repeat (first | (with_reducible exact hb6) | (refine Below.setCell ?_ (by simp) _))
set_option maxHeartbeats 16000000 in
set_option maxRecDepth 100000 in
theorem turned_some1 (f0 f1 : Int) (A2 : Option Addr) (n2 c2 : Nat) (A3 : Option Addr) (c3 : Nat) (l3 : List S98) (A4 : Option Addr) (n4 c4 : Nat) (at_ how : Int) (w : World) (hf : ¬ f0 = 1) (hn : 0 < l3.length) (hl3 : l3.length ≤ 1048576)
    (hC3 : Kd.C k98 w A3 l3.length l3) (hs3 : ∀ x ∈ l3, x.f2.size ≤ 1099511627776) (hu3 : ∀ x ∈ l3, 0 ≤ x.f3 ∧ x.f3 ≤ 4294967295) (hq : pickI how 5 = 1) :
    Calls Tryd.prog 71 #[.agg #[.int .i64 f0, .int .u32 f1, .slice A2 n2 c2, .slice A3 l3.length c3, .slice A4 n4 c4], .int .i64 at_, .int .i64 how] w fun e w' =>
      ∃ v3, e = .returned (.agg #[.int .i64 f0, .int .u32 f1, .slice A2 n2 c2, v3, .slice A4 n4 c4]) ∧ Kd.R k98 98 w' w.heap.size (fun _ => True) v3 (turnedA l3 at_ how) ∧ Below w.heap.size w w' := by
  have t1 : (f0 == 1) = false := beq_eq_false_iff_ne.2 hf
  have t2 : ((l3.length : Int) == 0) = false := beq_eq_false_iff_ne.2 (by omega)
  have hne : ¬ l3.length = 0 := by omega
  have hb1 := heap_alloc_new w (.cells #[.int .i64 f0, .int .u32 f1, .slice A2 n2 c2, .slice A3 l3.length c3, .slice A4 n4 c4] 43)
  have hw1 := below_alloc (Below.refl _ w) (.cells #[.int .i64 f0, .int .u32 f1, .slice A2 n2 c2, .slice A3 l3.length c3, .slice A4 n4 c4] 43)
  have hz1 : (w.alloc (.cells #[.int .i64 f0, .int .u32 f1, .slice A2 n2 c2, .slice A3 l3.length c3, .slice A4 n4 c4] 43)).heap.size = w.heap.size + 1 := by simp
  go_enter Tryd.func71, Tryd.ntmps71
  go_upto_region 1 with (fail)
  generalize w.alloc (.cells #[.int .i64 f0, .int .u32 f1, .slice A2 n2 c2, .slice A3 l3.length c3, .slice A4 n4 c4] 43) = w1 at hb1 hw1 hz1 ⊢
  have hb2 := heap_alloc_new w1 (.cells #[.int .i64 0, .int .u32 0, .slice none 0 0, .slice none 0 0, .slice none 0 0] 43)
  rw [hz1] at hb2
  have hb1' : (w1.alloc (.cells #[.int .i64 0, .int .u32 0, .slice none 0 0, .slice none 0 0, .slice none 0 0] 43)).heap[w.heap.size]? = some (.cells #[.int .i64 f0, .int .u32 f1, .slice A2 n2 c2, .slice A3 l3.length c3, .slice A4 n4 c4] 43) := by
    rw [Lib.alloc_old w1 _ _ (by omega)]; exact hb1
  have hw2 := below_alloc hw1 (.cells #[.int .i64 0, .int .u32 0, .slice none 0 0, .slice none 0 0, .slice none 0 0] 43)
  generalize w1.alloc (.cells #[.int .i64 0, .int .u32 0, .slice none 0 0, .slice none 0 0, .slice none 0 0] 43) = w2 at hb2 hb1' hw2 ⊢
  clear hb1 hw1 hz1
  have y0 : w2.cell? ⟨w.heap.size, 0, none⟩ = some (.int .i64 f0) := Lib.cell_of_heap hb1' 0
  have y1 : w2.cell? ⟨w.heap.size, 1, none⟩ = some (.int .u32 f1) := Lib.cell_of_heap hb1' 1
  have y2 : w2.cell? ⟨w.heap.size, 2, none⟩ = some (.slice A2 n2 c2) := Lib.cell_of_heap hb1' 2
  have y3 : w2.cell? ⟨w.heap.size, 3, none⟩ = some (.slice A3 l3.length c3) := Lib.cell_of_heap hb1' 3
  have y4 : w2.cell? ⟨w.heap.size, 4, none⟩ = some (.slice A4 n4 c4) := Lib.cell_of_heap hb1' 4
  have r0 : w2.cell? ⟨w.heap.size + 1, 0, none⟩ = some (.int .i64 0) := Lib.cell_of_heap hb2 0
  have r1 : w2.cell? ⟨w.heap.size + 1, 1, none⟩ = some (.int .u32 0) := Lib.cell_of_heap hb2 1
  have r2 : w2.cell? ⟨w.heap.size + 1, 2, none⟩ = some (.slice none 0 0) := Lib.cell_of_heap hb2 2
  have r3 : w2.cell? ⟨w.heap.size + 1, 3, none⟩ = some (.slice none 0 0) := Lib.cell_of_heap hb2 3
  have r4 : w2.cell? ⟨w.heap.size + 1, 4, none⟩ = some (.slice none 0 0) := Lib.cell_of_heap hb2 4
  have fr0 : w2.frozen? ⟨w.heap.size + 1, 0, none⟩ = false := Lib.frozen_of_heap hb2 0
  have fr1 : w2.frozen? ⟨w.heap.size + 1, 1, none⟩ = false := Lib.frozen_of_heap hb2 1
  have fr2 : w2.frozen? ⟨w.heap.size + 1, 2, none⟩ = false := Lib.frozen_of_heap hb2 2
  have fr3 : w2.frozen? ⟨w.heap.size + 1, 3, none⟩ = false := Lib.frozen_of_heap hb2 3
  have fr4 : w2.frozen? ⟨w.heap.size + 1, 4, none⟩ = false := Lib.frozen_of_heap hb2 4
  have fy1 : w2.frozen? ⟨w.heap.size, 1, none⟩ = false := Lib.frozen_of_heap hb1' 1
  have hCw : Kd.C k98 w2 A3 l3.length l3 := Kd.C_below hC3 hw2
  have hT1 : ReadsRow (k98.K w2) 4 w2 A3 l3.length l3 := hCw
  have hKM : ∀ (W : World) (x : S98) (cs : List Value), k98.K w2 x cs → k98.M W w.heap.size (fun _ => False) x cs := fun W x cs hK => by rw [k98_open hK]; exact k98_mkM _ _ _ _
  go_wp2_with (at_builtin; refine Kd.R_append_rows k98 (Rr := k98.K w2) (w0 := w) w.heap.size rfl (.const (.slice none 0 0)) (.tmp 27) 41 98 (.agg #[(.string ⟨#[]⟩), (.bool false), (.string ⟨#[]⟩), (.int .u32 0)]) 48 rfl Tryd.underlying41 info98 rfl (by decide) (by decide) (.slice none 0 0) [] l3 A3 l3.length c3 (fun k => k ≠ w.heap.size ∧ k ≠ w.heap.size + 1) (fun _ => False) rfl rfl (Kd.R_nil _ _ _ _ _) hT1 (hKM _) (fun _ h => h.elim) (fun k hk => ?fr) hw2 hw2.size ?aL ?_)
  case fr => exact ⟨by have := (Array.getElem?_eq_some_iff.1 hb1').1; omega, by have := (Array.getElem?_eq_some_iff.1 hb2).1; omega⟩
  case aL => simp only [List.length_nil]; omega
  intro v1 w3 hR1 hb3 hg3 _
  obtain ⟨g, cap, ev, hgb, hgl, cells, hgc⟩ := Kd.R_form hR1 hn
  subst ev
  have hgo := hR1.1 g (by simp [Value.ownBlock])
  have b1 : w3.heap[w.heap.size]? = some (.cells #[.int .i64 f0, .int .u32 f1, .slice A2 n2 c2, .slice A3 l3.length c3, .slice A4 n4 c4] 43) := (hg3.block _ (Array.getElem?_eq_some_iff.1 hb1').1 nil_own2).trans hb1'
  have b2 : w3.heap[w.heap.size + 1]? = some (.cells #[.int .i64 0, .int .u32 0, .slice none 0 0, .slice none 0 0, .slice none 0 0] 43) := (hg3.block _ (Array.getElem?_eq_some_iff.1 hb2).1 nil_own2).trans hb2
  clear y0 y1 y2 y3 y4 r0 r1 r2 r3 r4 fr0 fr1 fr2 fr3 fr4 fy1 hb1' hb2 hT1 hKM hg3 hgc cells hCw
  obtain ⟨i, hi⟩ : ∃ i : Nat, pickI at_ l3.length = i := ⟨(pickI at_ l3.length).toNat, by have := (pickI_in at_ l3.length (by omega) (by omega)).1; omega⟩
  have hil : i < l3.length := by have := (pickI_in at_ l3.length (by omega) (by omega)).2; omega
  have hp1 := fun W => pick_same at_ l3.length (by omega) (by omega) W
  have hp2 := fun W => pick_same how 5 (by decide) (by decide) W
  obtain ⟨q0, q1⟩ := pickI_in how 5 (by decide) (by decide)
  have hres : turnedA l3 at_ how = l3.set i (turn1 (rd_T98 l3 (i : Int)) (pickI how 5) how) := by unfold turnedA; rw [hi]; rfl
  rw [hi] at hp1
  obtain ⟨c, hcl, hcM, hcc, hcf⟩ := Kd.R_elem hR1 z98 (i : Int) (by omega) (by omega)
  obtain rfl := k98_openM hcM
  rw [show l3.getD ((i : Int).toNat) z98 = rd_T98 l3 (i : Int) from rfl] at hcM hcc
  rw [rd98 hil] at hcM hcc hres
  have hx2 := hs3 _ (List.getElem_mem hil)
  have hx3 := hu3 _ (List.getElem_mem hil)
  obtain ⟨x, hx⟩ : ∃ x, x = l3[i] := ⟨_, rfl⟩
  rw [← hx] at hcM hcc hx2 hx3 hres
  rw [hq] at hp2 q0 q1 hres
  have Hres := Lib.hid hres
  clear hx hq hres hi hcM
  obtain ⟨xk, xi, xv, xf⟩ := x
  have e0 : w3.cell? ⟨g, i * 4, none⟩ = some (.string xk) := hcc 0 _ rfl
  have e1 : w3.cell? ⟨g, i * 4 + 1, none⟩ = some (.bool xi) := hcc 1 _ rfl
  have e2 : w3.cell? ⟨g, i * 4 + 2, none⟩ = some (.string xv) := hcc 2 _ rfl
  have e3 : w3.cell? ⟨g, i * 4 + 3, none⟩ = some (.int .u32 xf) := hcc 3 _ rfl
  have Hcc := Lib.hid hcc
  clear hcc hcf
  go_wp2_with fail
  refine (hp1 _).mono ?_
  rintro e w4 ⟨rfl, rfl⟩
  go_wp2_with fail
  refine (hp2 _).mono ?_
  rintro e w5 ⟨rfl, rfl⟩
  have hcat : ¬ 9223372036854775807 < xv.size + 1 := by omega
  go_wp2_with ((with_reducible refine gate_ (.store 9 (.tmp 62) (.tmp 60)) rfl ?_); refine Kd.R_store k98 (w0 := w) w.heap.size rfl rfl 9 (.tmp 62) (.tmp 60) rfl 98 (i : Int) 2 l3 ⟨xk, xi, xv ++ ⟨#[120]⟩, xf⟩ (.string (xv ++ ⟨#[120]⟩)) [.string (xv ++ ⟨#[120]⟩)] [.string xk, .bool xi, .string xv, .int .u32 xf] (fun k => ¬k = w.heap.size ∧ ¬k = w.heap.size + 1) (fun _ => False) rfl rfl rfl rfl size9 (by simp [Value.oneCell']) hR1 (by omega) (by omega) rfl Hcc.out (Nat.le_of_ble_eq_true rfl) (k98_mkM _ _ _ ⟨xk, xi, xv ++ ⟨#[120]⟩, xf⟩) (fun _ h => h.elim) hb3 ?_)
  intro w6 hR6 hb6 hg6
  have hl1 : w.heap.size < (w5).heap.size := by have := (Array.getElem?_eq_some_iff.1 b1).1; omega
  have d1 := (hg6.block _ (Array.getElem?_eq_some_iff.1 b1).1 (fun e => hgo.1 (Option.some.inj e).symm)).trans b1
  have d2 := (hg6.block _ (Array.getElem?_eq_some_iff.1 b2).1 (fun e => hgo.2 (Option.some.inj e).symm)).trans b2
  have y0 : w6.cell? ⟨w.heap.size, 0, none⟩ = some (.int .i64 f0) := Lib.cell_of_heap d1 0
  have y1 : w6.cell? ⟨w.heap.size, 1, none⟩ = some (.int .u32 f1) := Lib.cell_of_heap d1 1
  have y2 : w6.cell? ⟨w.heap.size, 2, none⟩ = some (.slice A2 n2 c2) := Lib.cell_of_heap d1 2
  have y3 : w6.cell? ⟨w.heap.size, 3, none⟩ = some (.slice A3 l3.length c3) := Lib.cell_of_heap d1 3
  have y4 : w6.cell? ⟨w.heap.size, 4, none⟩ = some (.slice A4 n4 c4) := Lib.cell_of_heap d1 4
  have fy3 : w6.frozen? ⟨w.heap.size, 3, none⟩ = false := Lib.frozen_of_heap d1 3
  have r0 : w6.cell? ⟨w.heap.size + 1, 0, none⟩ = some (.int .i64 0) := Lib.cell_of_heap d2 0
  have r1 : w6.cell? ⟨w.heap.size + 1, 1, none⟩ = some (.int .u32 0) := Lib.cell_of_heap d2 1
  have r2 : w6.cell? ⟨w.heap.size + 1, 2, none⟩ = some (.slice none 0 0) := Lib.cell_of_heap d2 2
  have r3 : w6.cell? ⟨w.heap.size + 1, 3, none⟩ = some (.slice none 0 0) := Lib.cell_of_heap d2 3
  have r4 : w6.cell? ⟨w.heap.size + 1, 4, none⟩ = some (.slice none 0 0) := Lib.cell_of_heap d2 4
  have fr0 : w6.frozen? ⟨w.heap.size + 1, 0, none⟩ = false := Lib.frozen_of_heap d2 0
  have fr1 : w6.frozen? ⟨w.heap.size + 1, 1, none⟩ = false := Lib.frozen_of_heap d2 1
  have fr2 : w6.frozen? ⟨w.heap.size + 1, 2, none⟩ = false := Lib.frozen_of_heap d2 2
  have fr3 : w6.frozen? ⟨w.heap.size + 1, 3, none⟩ = false := Lib.frozen_of_heap d2 3
  have fr4 : w6.frozen? ⟨w.heap.size + 1, 4, none⟩ = false := Lib.frozen_of_heap d2 4
  have hfin : l3.set i ⟨xk, xi, xv ++ ⟨#[120]⟩, xf⟩ = turnedA l3 at_ how := by rw [Hres.out]; exact congrArg _ (turn1_1 ⟨xk, xi, xv, xf⟩ how).symm
  rw [show (i : Int).toNat = i from rfl, hfin] at hR6
  clear hfin d1 d2 hg6 hl1
  go_wp2
  refine bodyPost_ret (v := .agg #[.int .i64 f0, .int .u32 f1, .slice A2 n2 c2, .slice (some ⟨g, 0, none⟩) l3.length cap, .slice A4 n4 c4]) (by simp [results, Tryd.results71, go_sem, r0, r1, r2, r3, r4]) rfl ⟨_, rfl, ?_, ?_⟩
  · refine Kd.R_mono (ok := fun k => ¬k = w.heap.size ∧ ¬k = w.heap.size + 1) ?_ (fun _ _ => trivial)
    repeat (first | (with_reducible exact hR6) | (refine Kd.R_far ?_ (fun k hk => by first | exact hk.1 | exact hk.2) _))
  · repeat (first | (with_reducible exact hb6) | (refine Below.setCell ?_ (by simp) _))
set_option maxHeartbeats 16000000 in
set_option maxRecDepth 100000 in
theorem turned_some2 (f0 f1 : Int) (A2 : Option Addr) (n2 c2 : Nat) (A3 : Option Addr) (c3 : Nat) (l3 : List S98) (A4 : Option Addr) (n4 c4 : Nat) (at_ how : Int) (w : World) (hf : ¬ f0 = 1) (hn : 0 < l3.length) (hl3 : l3.length ≤ 1048576)
    (hC3 : Kd.C k98 w A3 l3.length l3) (hs3 : ∀ x ∈ l3, x.f2.size ≤ 1099511627776) (hu3 : ∀ x ∈ l3, 0 ≤ x.f3 ∧ x.f3 ≤ 4294967295) (hq : pickI how 5 = 2) :
    Calls Tryd.prog 71 #[.agg #[.int .i64 f0, .int .u32 f1, .slice A2 n2 c2, .slice A3 l3.length c3, .slice A4 n4 c4], .int .i64 at_, .int .i64 how] w fun e w' =>
      ∃ v3, e = .returned (.agg #[.int .i64 f0, .int .u32 f1, .slice A2 n2 c2, v3, .slice A4 n4 c4]) ∧ Kd.R k98 98 w' w.heap.size (fun _ => True) v3 (turnedA l3 at_ how) ∧ Below w.heap.size w w' := by
  have t1 : (f0 == 1) = false := beq_eq_false_iff_ne.2 hf
  have t2 : ((l3.length : Int) == 0) = false := beq_eq_false_iff_ne.2 (by omega)
  have hne : ¬ l3.length = 0 := by omega
  have hb1 := heap_alloc_new w (.cells #[.int .i64 f0, .int .u32 f1, .slice A2 n2 c2, .slice A3 l3.length c3, .slice A4 n4 c4] 43)
  have hw1 := below_alloc (Below.refl _ w) (.cells #[.int .i64 f0, .int .u32 f1, .slice A2 n2 c2, .slice A3 l3.length c3, .slice A4 n4 c4] 43)
  have hz1 : (w.alloc (.cells #[.int .i64 f0, .int .u32 f1, .slice A2 n2 c2, .slice A3 l3.length c3, .slice A4 n4 c4] 43)).heap.size = w.heap.size + 1 := by simp
  go_enter Tryd.func71, Tryd.ntmps71
  go_upto_region 1 with (fail)
  generalize w.alloc (.cells #[.int .i64 f0, .int .u32 f1, .slice A2 n2 c2, .slice A3 l3.length c3, .slice A4 n4 c4] 43) = w1 at hb1 hw1 hz1 ⊢
  have hb2 := heap_alloc_new w1 (.cells #[.int .i64 0, .int .u32 0, .slice none 0 0, .slice none 0 0, .slice none 0 0] 43)
  rw [hz1] at hb2
  have hb1' : (w1.alloc (.cells #[.int .i64 0, .int .u32 0, .slice none 0 0, .slice none 0 0, .slice none 0 0] 43)).heap[w.heap.size]? = some (.cells #[.int .i64 f0, .int .u32 f1, .slice A2 n2 c2, .slice A3 l3.length c3, .slice A4 n4 c4] 43) := by
    rw [Lib.alloc_old w1 _ _ (by omega)]; exact hb1
  have hw2 := below_alloc hw1 (.cells #[.int .i64 0, .int .u32 0, .slice none 0 0, .slice none 0 0, .slice none 0 0] 43)
  generalize w1.alloc (.cells #[.int .i64 0, .int .u32 0, .slice none 0 0, .slice none 0 0, .slice none 0 0] 43) = w2 at hb2 hb1' hw2 ⊢
  clear hb1 hw1 hz1
  have y0 : w2.cell? ⟨w.heap.size, 0, none⟩ = some (.int .i64 f0) := Lib.cell_of_heap hb1' 0
  have y1 : w2.cell? ⟨w.heap.size, 1, none⟩ = some (.int .u32 f1) := Lib.cell_of_heap hb1' 1
  have y2 : w2.cell? ⟨w.heap.size, 2, none⟩ = some (.slice A2 n2 c2) := Lib.cell_of_heap hb1' 2
  have y3 : w2.cell? ⟨w.heap.size, 3, none⟩ = some (.slice A3 l3.length c3) := Lib.cell_of_heap hb1' 3
  have y4 : w2.cell? ⟨w.heap.size, 4, none⟩ = some (.slice A4 n4 c4) := Lib.cell_of_heap hb1' 4
  have r0 : w2.cell? ⟨w.heap.size + 1, 0, none⟩ = some (.int .i64 0) := Lib.cell_of_heap hb2 0
  have r1 : w2.cell? ⟨w.heap.size + 1, 1, none⟩ = some (.int .u32 0) := Lib.cell_of_heap hb2 1
  have r2 : w2.cell? ⟨w.heap.size + 1, 2, none⟩ = some (.slice none 0 0) := Lib.cell_of_heap hb2 2
  have r3 : w2.cell? ⟨w.heap.size + 1, 3, none⟩ = some (.slice none 0 0) := Lib.cell_of_heap hb2 3
  have r4 : w2.cell? ⟨w.heap.size + 1, 4, none⟩ = some (.slice none 0 0) := Lib.cell_of_heap hb2 4
  have fr0 : w2.frozen? ⟨w.heap.size + 1, 0, none⟩ = false := Lib.frozen_of_heap hb2 0
  have fr1 : w2.frozen? ⟨w.heap.size + 1, 1, none⟩ = false := Lib.frozen_of_heap hb2 1
  have fr2 : w2.frozen? ⟨w.heap.size + 1, 2, none⟩ = false := Lib.frozen_of_heap hb2 2
  have fr3 : w2.frozen? ⟨w.heap.size + 1, 3, none⟩ = false := Lib.frozen_of_heap hb2 3
  have fr4 : w2.frozen? ⟨w.heap.size + 1, 4, none⟩ = false := Lib.frozen_of_heap hb2 4
  have fy1 : w2.frozen? ⟨w.heap.size, 1, none⟩ = false := Lib.frozen_of_heap hb1' 1
  have hCw : Kd.C k98 w2 A3 l3.length l3 := Kd.C_below hC3 hw2
  have hT1 : ReadsRow (k98.K w2) 4 w2 A3 l3.length l3 := hCw
  have hKM : ∀ (W : World) (x : S98) (cs : List Value), k98.K w2 x cs → k98.M W w.heap.size (fun _ => False) x cs := fun W x cs hK => by rw [k98_open hK]; exact k98_mkM _ _ _ _
  go_wp2_with (at_builtin; refine Kd.R_append_rows k98 (Rr := k98.K w2) (w0 := w) w.heap.size rfl (.const (.slice none 0 0)) (.tmp 27) 41 98 (.agg #[(.string ⟨#[]⟩), (.bool false), (.string ⟨#[]⟩), (.int .u32 0)]) 48 rfl Tryd.underlying41 info98 rfl (by decide) (by decide) (.slice none 0 0) [] l3 A3 l3.length c3 (fun k => k ≠ w.heap.size ∧ k ≠ w.heap.size + 1) (fun _ => False) rfl rfl (Kd.R_nil _ _ _ _ _) hT1 (hKM _) (fun _ h => h.elim) (fun k hk => ?fr) hw2 hw2.size ?aL ?_)
  case fr => exact ⟨by have := (Array.getElem?_eq_some_iff.1 hb1').1; omega, by have := (Array.getElem?_eq_some_iff.1 hb2).1; omega⟩
  case aL => simp only [List.length_nil]; omega
  intro v1 w3 hR1 hb3 hg3 _
  obtain ⟨g, cap, ev, hgb, hgl, cells, hgc⟩ := Kd.R_form hR1 hn
  subst ev
  have hgo := hR1.1 g (by simp [Value.ownBlock])
  have b1 : w3.heap[w.heap.size]? = some (.cells #[.int .i64 f0, .int .u32 f1, .slice A2 n2 c2, .slice A3 l3.length c3, .slice A4 n4 c4] 43) := (hg3.block _ (Array.getElem?_eq_some_iff.1 hb1').1 nil_own2).trans hb1'
  have b2 : w3.heap[w.heap.size + 1]? = some (.cells #[.int .i64 0, .int .u32 0, .slice none 0 0, .slice none 0 0, .slice none 0 0] 43) := (hg3.block _ (Array.getElem?_eq_some_iff.1 hb2).1 nil_own2).trans hb2
  clear y0 y1 y2 y3 y4 r0 r1 r2 r3 r4 fr0 fr1 fr2 fr3 fr4 fy1 hb1' hb2 hT1 hKM hg3 hgc cells hCw
  obtain ⟨i, hi⟩ : ∃ i : Nat, pickI at_ l3.length = i := ⟨(pickI at_ l3.length).toNat, by have := (pickI_in at_ l3.length (by omega) (by omega)).1; omega⟩
  have hil : i < l3.length := by have := (pickI_in at_ l3.length (by omega) (by omega)).2; omega
  have hp1 := fun W => pick_same at_ l3.length (by omega) (by omega) W
  have hp2 := fun W => pick_same how 5 (by decide) (by decide) W
  obtain ⟨q0, q1⟩ := pickI_in how 5 (by decide) (by decide)
  have hres : turnedA l3 at_ how = l3.set i (turn1 (rd_T98 l3 (i : Int)) (pickI how 5) how) := by unfold turnedA; rw [hi]; rfl
  rw [hi] at hp1
  obtain ⟨c, hcl, hcM, hcc, hcf⟩ := Kd.R_elem hR1 z98 (i : Int) (by omega) (by omega)
  obtain rfl := k98_openM hcM
  rw [show l3.getD ((i : Int).toNat) z98 = rd_T98 l3 (i : Int) from rfl] at hcM hcc
  rw [rd98 hil] at hcM hcc hres
  have hx2 := hs3 _ (List.getElem_mem hil)
  have hx3 := hu3 _ (List.getElem_mem hil)
  obtain ⟨x, hx⟩ : ∃ x, x = l3[i] := ⟨_, rfl⟩
  rw [← hx] at hcM hcc hx2 hx3 hres
  rw [hq] at hp2 q0 q1 hres
  have Hres := Lib.hid hres
  clear hx hq hres hi hcM
  obtain ⟨xk, xi, xv, xf⟩ := x
  have e0 : w3.cell? ⟨g, i * 4, none⟩ = some (.string xk) := hcc 0 _ rfl
  have e1 : w3.cell? ⟨g, i * 4 + 1, none⟩ = some (.bool xi) := hcc 1 _ rfl
  have e2 : w3.cell? ⟨g, i * 4 + 2, none⟩ = some (.string xv) := hcc 2 _ rfl
  have e3 : w3.cell? ⟨g, i * 4 + 3, none⟩ = some (.int .u32 xf) := hcc 3 _ rfl
  have Hcc := Lib.hid hcc
  clear hcc hcf
  go_wp2_with fail
  refine (hp1 _).mono ?_
  rintro e w4 ⟨rfl, rfl⟩
  go_wp2_with fail
  refine (hp2 _).mono ?_
  rintro e w5 ⟨rfl, rfl⟩
  go_wp2_with ((with_reducible refine gate_ (.store 39 (.tmp 71) (.tmp 69)) rfl ?_); refine Kd.R_store k98 (w0 := w) w.heap.size rfl rfl 39 (.tmp 71) (.tmp 69) rfl 98 (i : Int) 3 l3 ⟨xk, xi, xv, IntKind.u32.wrap (xf + 1)⟩ (.int .u32 (IntKind.u32.wrap (xf + 1))) [.int .u32 (IntKind.u32.wrap (xf + 1))] [.string xk, .bool xi, .string xv, .int .u32 xf] (fun k => ¬k = w.heap.size ∧ ¬k = w.heap.size + 1) (fun _ => False) rfl rfl rfl rfl size39 (by simp [Value.oneCell']) hR1 (by omega) (by omega) rfl Hcc.out (Nat.le_of_ble_eq_true rfl) (k98_mkM _ _ _ ⟨xk, xi, xv, IntKind.u32.wrap (xf + 1)⟩) (fun _ h => h.elim) hb3 ?_)
  intro w6 hR6 hb6 hg6
  have hl1 : w.heap.size < (w5).heap.size := by have := (Array.getElem?_eq_some_iff.1 b1).1; omega
  have d1 := (hg6.block _ (Array.getElem?_eq_some_iff.1 b1).1 (fun e => hgo.1 (Option.some.inj e).symm)).trans b1
  have d2 := (hg6.block _ (Array.getElem?_eq_some_iff.1 b2).1 (fun e => hgo.2 (Option.some.inj e).symm)).trans b2
  have y0 : w6.cell? ⟨w.heap.size, 0, none⟩ = some (.int .i64 f0) := Lib.cell_of_heap d1 0
  have y1 : w6.cell? ⟨w.heap.size, 1, none⟩ = some (.int .u32 f1) := Lib.cell_of_heap d1 1
  have y2 : w6.cell? ⟨w.heap.size, 2, none⟩ = some (.slice A2 n2 c2) := Lib.cell_of_heap d1 2
  have y3 : w6.cell? ⟨w.heap.size, 3, none⟩ = some (.slice A3 l3.length c3) := Lib.cell_of_heap d1 3
  have y4 : w6.cell? ⟨w.heap.size, 4, none⟩ = some (.slice A4 n4 c4) := Lib.cell_of_heap d1 4
  have fy3 : w6.frozen? ⟨w.heap.size, 3, none⟩ = false := Lib.frozen_of_heap d1 3
  have r0 : w6.cell? ⟨w.heap.size + 1, 0, none⟩ = some (.int .i64 0) := Lib.cell_of_heap d2 0
  have r1 : w6.cell? ⟨w.heap.size + 1, 1, none⟩ = some (.int .u32 0) := Lib.cell_of_heap d2 1
  have r2 : w6.cell? ⟨w.heap.size + 1, 2, none⟩ = some (.slice none 0 0) := Lib.cell_of_heap d2 2
  have r3 : w6.cell? ⟨w.heap.size + 1, 3, none⟩ = some (.slice none 0 0) := Lib.cell_of_heap d2 3
  have r4 : w6.cell? ⟨w.heap.size + 1, 4, none⟩ = some (.slice none 0 0) := Lib.cell_of_heap d2 4
  have fr0 : w6.frozen? ⟨w.heap.size + 1, 0, none⟩ = false := Lib.frozen_of_heap d2 0
  have fr1 : w6.frozen? ⟨w.heap.size + 1, 1, none⟩ = false := Lib.frozen_of_heap d2 1
  have fr2 : w6.frozen? ⟨w.heap.size + 1, 2, none⟩ = false := Lib.frozen_of_heap d2 2
  have fr3 : w6.frozen? ⟨w.heap.size + 1, 3, none⟩ = false := Lib.frozen_of_heap d2 3
  have fr4 : w6.frozen? ⟨w.heap.size + 1, 4, none⟩ = false := Lib.frozen_of_heap d2 4
  have hfin : l3.set i ⟨xk, xi, xv, IntKind.u32.wrap (xf + 1)⟩ = turnedA l3 at_ how := by rw [Hres.out]; exact congrArg _ (turn1_2 ⟨xk, xi, xv, xf⟩ how).symm
  rw [show (i : Int).toNat = i from rfl, hfin] at hR6
  clear hfin d1 d2 hg6 hl1
  go_wp2
  refine bodyPost_ret (v := .agg #[.int .i64 f0, .int .u32 f1, .slice A2 n2 c2, .slice (some ⟨g, 0, none⟩) l3.length cap, .slice A4 n4 c4]) (by simp [results, Tryd.results71, go_sem, r0, r1, r2, r3, r4]) rfl ⟨_, rfl, ?_, ?_⟩
  · refine Kd.R_mono (ok := fun k => ¬k = w.heap.size ∧ ¬k = w.heap.size + 1) ?_ (fun _ _ => trivial)
    repeat (first | (with_reducible exact hR6) | (refine Kd.R_far ?_ (fun k hk => by first | exact hk.1 | exact hk.2) _))
  · repeat (first | (with_reducible exact hb6) | (refine Below.setCell ?_ (by simp) _))
set_option maxHeartbeats 16000000 in
set_option maxRecDepth 100000 in
theorem turned_some3 (f0 f1 : Int) (A2 : Option Addr) (n2 c2 : Nat) (A3 : Option Addr) (c3 : Nat) (l3 : List S98) (A4 : Option Addr) (n4 c4 : Nat) (at_ how : Int) (w : World) (hf : ¬ f0 = 1) (hn : 0 < l3.length) (hl3 : l3.length ≤ 1048576)
    (hC3 : Kd.C k98 w A3 l3.length l3) (hs3 : ∀ x ∈ l3, x.f2.size ≤ 1099511627776) (hu3 : ∀ x ∈ l3, 0 ≤ x.f3 ∧ x.f3 ≤ 4294967295) (hT : Tabs w) (hq : pickI how 5 = 3) :
    Calls Tryd.prog 71 #[.agg #[.int .i64 f0, .int .u32 f1, .slice A2 n2 c2, .slice A3 l3.length c3, .slice A4 n4 c4], .int .i64 at_, .int .i64 how] w fun e w' =>
      ∃ v3, e = .returned (.agg #[.int .i64 f0, .int .u32 f1, .slice A2 n2 c2, v3, .slice A4 n4 c4]) ∧ Kd.R k98 98 w' w.heap.size (fun _ => True) v3 (turnedA l3 at_ how) ∧ Below w.heap.size w w' := by
  have t1 : (f0 == 1) = false := beq_eq_false_iff_ne.2 hf
  have t2 : ((l3.length : Int) == 0) = false := beq_eq_false_iff_ne.2 (by omega)
  have hne : ¬ l3.length = 0 := by omega
  have hb1 := heap_alloc_new w (.cells #[.int .i64 f0, .int .u32 f1, .slice A2 n2 c2, .slice A3 l3.length c3, .slice A4 n4 c4] 43)
  have hw1 := below_alloc (Below.refl _ w) (.cells #[.int .i64 f0, .int .u32 f1, .slice A2 n2 c2, .slice A3 l3.length c3, .slice A4 n4 c4] 43)
  have hz1 : (w.alloc (.cells #[.int .i64 f0, .int .u32 f1, .slice A2 n2 c2, .slice A3 l3.length c3, .slice A4 n4 c4] 43)).heap.size = w.heap.size + 1 := by simp
  go_enter Tryd.func71, Tryd.ntmps71
  go_upto_region 1 with (fail)
  generalize w.alloc (.cells #[.int .i64 f0, .int .u32 f1, .slice A2 n2 c2, .slice A3 l3.length c3, .slice A4 n4 c4] 43) = w1 at hb1 hw1 hz1 ⊢
  have hb2 := heap_alloc_new w1 (.cells #[.int .i64 0, .int .u32 0, .slice none 0 0, .slice none 0 0, .slice none 0 0] 43)
  rw [hz1] at hb2
  have hb1' : (w1.alloc (.cells #[.int .i64 0, .int .u32 0, .slice none 0 0, .slice none 0 0, .slice none 0 0] 43)).heap[w.heap.size]? = some (.cells #[.int .i64 f0, .int .u32 f1, .slice A2 n2 c2, .slice A3 l3.length c3, .slice A4 n4 c4] 43) := by
    rw [Lib.alloc_old w1 _ _ (by omega)]; exact hb1
  have hw2 := below_alloc hw1 (.cells #[.int .i64 0, .int .u32 0, .slice none 0 0, .slice none 0 0, .slice none 0 0] 43)
  generalize w1.alloc (.cells #[.int .i64 0, .int .u32 0, .slice none 0 0, .slice none 0 0, .slice none 0 0] 43) = w2 at hb2 hb1' hw2 ⊢
  clear hb1 hw1 hz1
  have y0 : w2.cell? ⟨w.heap.size, 0, none⟩ = some (.int .i64 f0) := Lib.cell_of_heap hb1' 0
  have y1 : w2.cell? ⟨w.heap.size, 1, none⟩ = some (.int .u32 f1) := Lib.cell_of_heap hb1' 1
  have y2 : w2.cell? ⟨w.heap.size, 2, none⟩ = some (.slice A2 n2 c2) := Lib.cell_of_heap hb1' 2
  have y3 : w2.cell? ⟨w.heap.size, 3, none⟩ = some (.slice A3 l3.length c3) := Lib.cell_of_heap hb1' 3
  have y4 : w2.cell? ⟨w.heap.size, 4, none⟩ = some (.slice A4 n4 c4) := Lib.cell_of_heap hb1' 4
  have r0 : w2.cell? ⟨w.heap.size + 1, 0, none⟩ = some (.int .i64 0) := Lib.cell_of_heap hb2 0
  have r1 : w2.cell? ⟨w.heap.size + 1, 1, none⟩ = some (.int .u32 0) := Lib.cell_of_heap hb2 1
  have r2 : w2.cell? ⟨w.heap.size + 1, 2, none⟩ = some (.slice none 0 0) := Lib.cell_of_heap hb2 2
  have r3 : w2.cell? ⟨w.heap.size + 1, 3, none⟩ = some (.slice none 0 0) := Lib.cell_of_heap hb2 3
  have r4 : w2.cell? ⟨w.heap.size + 1, 4, none⟩ = some (.slice none 0 0) := Lib.cell_of_heap hb2 4
  have fr0 : w2.frozen? ⟨w.heap.size + 1, 0, none⟩ = false := Lib.frozen_of_heap hb2 0
  have fr1 : w2.frozen? ⟨w.heap.size + 1, 1, none⟩ = false := Lib.frozen_of_heap hb2 1
  have fr2 : w2.frozen? ⟨w.heap.size + 1, 2, none⟩ = false := Lib.frozen_of_heap hb2 2
  have fr3 : w2.frozen? ⟨w.heap.size + 1, 3, none⟩ = false := Lib.frozen_of_heap hb2 3
  have fr4 : w2.frozen? ⟨w.heap.size + 1, 4, none⟩ = false := Lib.frozen_of_heap hb2 4
  have fy1 : w2.frozen? ⟨w.heap.size, 1, none⟩ = false := Lib.frozen_of_heap hb1' 1
  have hCw : Kd.C k98 w2 A3 l3.length l3 := Kd.C_below hC3 hw2
  have hT1 : ReadsRow (k98.K w2) 4 w2 A3 l3.length l3 := hCw
  have hKM : ∀ (W : World) (x : S98) (cs : List Value), k98.K w2 x cs → k98.M W w.heap.size (fun _ => False) x cs := fun W x cs hK => by rw [k98_open hK]; exact k98_mkM _ _ _ _
  go_wp2_with (at_builtin; refine Kd.R_append_rows k98 (Rr := k98.K w2) (w0 := w) w.heap.size rfl (.const (.slice none 0 0)) (.tmp 27) 41 98 (.agg #[(.string ⟨#[]⟩), (.bool false), (.string ⟨#[]⟩), (.int .u32 0)]) 48 rfl Tryd.underlying41 info98 rfl (by decide) (by decide) (.slice none 0 0) [] l3 A3 l3.length c3 (fun k => k ≠ w.heap.size ∧ k ≠ w.heap.size + 1) (fun _ => False) rfl rfl (Kd.R_nil _ _ _ _ _) hT1 (hKM _) (fun _ h => h.elim) (fun k hk => ?fr) hw2 hw2.size ?aL ?_)
  case fr => exact ⟨by have := (Array.getElem?_eq_some_iff.1 hb1').1; omega, by have := (Array.getElem?_eq_some_iff.1 hb2).1; omega⟩
  case aL => simp only [List.length_nil]; omega
  intro v1 w3 hR1 hb3 hg3 _
  obtain ⟨g, cap, ev, hgb, hgl, cells, hgc⟩ := Kd.R_form hR1 hn
  subst ev
  have hgo := hR1.1 g (by simp [Value.ownBlock])
  have b1 : w3.heap[w.heap.size]? = some (.cells #[.int .i64 f0, .int .u32 f1, .slice A2 n2 c2, .slice A3 l3.length c3, .slice A4 n4 c4] 43) := (hg3.block _ (Array.getElem?_eq_some_iff.1 hb1').1 nil_own2).trans hb1'
  have b2 : w3.heap[w.heap.size + 1]? = some (.cells #[.int .i64 0, .int .u32 0, .slice none 0 0, .slice none 0 0, .slice none 0 0] 43) := (hg3.block _ (Array.getElem?_eq_some_iff.1 hb2).1 nil_own2).trans hb2
  clear y0 y1 y2 y3 y4 r0 r1 r2 r3 r4 fr0 fr1 fr2 fr3 fr4 fy1 hb1' hb2 hT1 hKM hg3 hgc cells hCw
  obtain ⟨i, hi⟩ : ∃ i : Nat, pickI at_ l3.length = i := ⟨(pickI at_ l3.length).toNat, by have := (pickI_in at_ l3.length (by omega) (by omega)).1; omega⟩
  have hil : i < l3.length := by have := (pickI_in at_ l3.length (by omega) (by omega)).2; omega
  have hp1 := fun W => pick_same at_ l3.length (by omega) (by omega) W
  have hp2 := fun W => pick_same how 5 (by decide) (by decide) W
  obtain ⟨q0, q1⟩ := pickI_in how 5 (by decide) (by decide)
  have hres : turnedA l3 at_ how = l3.set i (turn1 (rd_T98 l3 (i : Int)) (pickI how 5) how) := by unfold turnedA; rw [hi]; rfl
  rw [hi] at hp1
  obtain ⟨c, hcl, hcM, hcc, hcf⟩ := Kd.R_elem hR1 z98 (i : Int) (by omega) (by omega)
  obtain rfl := k98_openM hcM
  rw [show l3.getD ((i : Int).toNat) z98 = rd_T98 l3 (i : Int) from rfl] at hcM hcc
  rw [rd98 hil] at hcM hcc hres
  have hx2 := hs3 _ (List.getElem_mem hil)
  have hx3 := hu3 _ (List.getElem_mem hil)
  obtain ⟨x, hx⟩ : ∃ x, x = l3[i] := ⟨_, rfl⟩
  rw [← hx] at hcM hcc hx2 hx3 hres
  rw [hq] at hp2 q0 q1 hres
  have Hres := Lib.hid hres
  clear hx hq hres hi hcM
  obtain ⟨xk, xi, xv, xf⟩ := x
  have e0 : w3.cell? ⟨g, i * 4, none⟩ = some (.string xk) := hcc 0 _ rfl
  have e1 : w3.cell? ⟨g, i * 4 + 1, none⟩ = some (.bool xi) := hcc 1 _ rfl
  have e2 : w3.cell? ⟨g, i * 4 + 2, none⟩ = some (.string xv) := hcc 2 _ rfl
  have e3 : w3.cell? ⟨g, i * 4 + 3, none⟩ = some (.int .u32 xf) := hcc 3 _ rfl
  have Hcc := Lib.hid hcc
  clear hcc hcf
  go_wp2_with fail
  refine (hp1 _).mono ?_
  rintro e w4 ⟨rfl, rfl⟩
  go_wp2_with fail
  refine (hp2 _).mono ?_
  rintro e w5 ⟨rfl, rfl⟩
  go_wp2_with fail
  refine (cachepothand_Key.calls (wrap64 (Int.tdiv how 5)) (nameAt (pickI (wrap64 (Int.tdiv how 5)) 12)) _ (by unfold cachepothand_Key.f; rw [pickI_f _ 12 (by decide) (by decide)]; rfl) (hT.below hb3)).mono ?_
  rintro e w7 ⟨rfl, hbK⟩
  replace hR1 := Kd.R_below hR1 hbK
  replace hb3 := below_step hb3 hbK
  replace b1 := (hbK.block _ (Array.getElem?_eq_some_iff.1 b1).1).trans b1
  replace b2 := (hbK.block _ (Array.getElem?_eq_some_iff.1 b2).1).trans b2
  have Hc7 : Hid (∀ (j : Nat) (u : Value), [Value.string xk, .bool xi, .string xv, .int .u32 xf][j]? = some u → w7.cell? ⟨g, (i : Int).toNat * k98.sz + j, none⟩ = some u) := Lib.hid fun j u h => (hbK.cell (p := ⟨g, (i : Int).toNat * k98.sz + j, none⟩) hgl).trans (Hcc.out j u h)
  clear Hcc hbK
  go_wp2_with ((with_reducible refine gate_ (.store 9 (.tmp 79) (.tmp 77)) rfl ?_); refine Kd.R_store k98 (w0 := w) w.heap.size rfl rfl 9 (.tmp 79) (.tmp 77) rfl 98 (i : Int) 0 l3 ⟨nameAt (pickI (wrap64 (Int.tdiv how 5)) 12), xi, xv, xf⟩ (.string (nameAt (pickI (wrap64 (Int.tdiv how 5)) 12))) [.string (nameAt (pickI (wrap64 (Int.tdiv how 5)) 12))] [.string xk, .bool xi, .string xv, .int .u32 xf] (fun k => ¬k = w.heap.size ∧ ¬k = w.heap.size + 1) (fun _ => False) rfl rfl rfl rfl size9 (by simp [Value.oneCell']) hR1 (by omega) (by omega) rfl Hc7.out (Nat.le_of_ble_eq_true rfl) (k98_mkM _ _ _ ⟨nameAt (pickI (wrap64 (Int.tdiv how 5)) 12), xi, xv, xf⟩) (fun _ h => h.elim) hb3 ?_)
  intro w6 hR6 hb6 hg6
  have hl1 : w.heap.size < (w7).heap.size := by have := (Array.getElem?_eq_some_iff.1 b1).1; omega
  have d1 := (hg6.block _ (Array.getElem?_eq_some_iff.1 b1).1 (fun e => hgo.1 (Option.some.inj e).symm)).trans b1
  have d2 := (hg6.block _ (Array.getElem?_eq_some_iff.1 b2).1 (fun e => hgo.2 (Option.some.inj e).symm)).trans b2
  have y0 : w6.cell? ⟨w.heap.size, 0, none⟩ = some (.int .i64 f0) := Lib.cell_of_heap d1 0
  have y1 : w6.cell? ⟨w.heap.size, 1, none⟩ = some (.int .u32 f1) := Lib.cell_of_heap d1 1
  have y2 : w6.cell? ⟨w.heap.size, 2, none⟩ = some (.slice A2 n2 c2) := Lib.cell_of_heap d1 2
  have y3 : w6.cell? ⟨w.heap.size, 3, none⟩ = some (.slice A3 l3.length c3) := Lib.cell_of_heap d1 3
  have y4 : w6.cell? ⟨w.heap.size, 4, none⟩ = some (.slice A4 n4 c4) := Lib.cell_of_heap d1 4
  have fy3 : w6.frozen? ⟨w.heap.size, 3, none⟩ = false := Lib.frozen_of_heap d1 3
  have r0 : w6.cell? ⟨w.heap.size + 1, 0, none⟩ = some (.int .i64 0) := Lib.cell_of_heap d2 0
  have r1 : w6.cell? ⟨w.heap.size + 1, 1, none⟩ = some (.int .u32 0) := Lib.cell_of_heap d2 1
  have r2 : w6.cell? ⟨w.heap.size + 1, 2, none⟩ = some (.slice none 0 0) := Lib.cell_of_heap d2 2
  have r3 : w6.cell? ⟨w.heap.size + 1, 3, none⟩ = some (.slice none 0 0) := Lib.cell_of_heap d2 3
  have r4 : w6.cell? ⟨w.heap.size + 1, 4, none⟩ = some (.slice none 0 0) := Lib.cell_of_heap d2 4
  have fr0 : w6.frozen? ⟨w.heap.size + 1, 0, none⟩ = false := Lib.frozen_of_heap d2 0
  have fr1 : w6.frozen? ⟨w.heap.size + 1, 1, none⟩ = false := Lib.frozen_of_heap d2 1
  have fr2 : w6.frozen? ⟨w.heap.size + 1, 2, none⟩ = false := Lib.frozen_of_heap d2 2
  have fr3 : w6.frozen? ⟨w.heap.size + 1, 3, none⟩ = false := Lib.frozen_of_heap d2 3
  have fr4 : w6.frozen? ⟨w.heap.size + 1, 4, none⟩ = false := Lib.frozen_of_heap d2 4
  have hfin : l3.set i ⟨nameAt (pickI (wrap64 (Int.tdiv how 5)) 12), xi, xv, xf⟩ = turnedA l3 at_ how := by rw [Hres.out]; exact congrArg _ (turn1_3 ⟨xk, xi, xv, xf⟩ how).symm
  rw [show (i : Int).toNat = i from rfl, hfin] at hR6
  clear hfin d1 d2 hg6 hl1
  go_wp2
  refine bodyPost_ret (v := .agg #[.int .i64 f0, .int .u32 f1, .slice A2 n2 c2, .slice (some ⟨g, 0, none⟩) l3.length cap, .slice A4 n4 c4]) (by simp [results, Tryd.results71, go_sem, r0, r1, r2, r3, r4]) rfl ⟨_, rfl, ?_, ?_⟩
  · refine Kd.R_mono (ok := fun k => ¬k = w.heap.size ∧ ¬k = w.heap.size + 1) ?_ (fun _ _ => trivial)
    repeat (first | (with_reducible exact hR6) | (refine Kd.R_far ?_ (fun k hk => by first | exact hk.1 | exact hk.2) _))
  · repeat (first | (with_reducible exact hb6) | (refine Below.setCell ?_ (by simp) _))
set_option maxHeartbeats 16000000 in
set_option maxRecDepth 100000 in
theorem turned_some4 (f0 f1 : Int) (A2 : Option Addr) (n2 c2 : Nat) (A3 : Option Addr) (c3 : Nat) (l3 : List S98) (A4 : Option Addr) (n4 c4 : Nat) (at_ how : Int) (w : World) (hf : ¬ f0 = 1) (hn : 0 < l3.length) (hl3 : l3.length ≤ 1048576)
    (hC3 : Kd.C k98 w A3 l3.length l3) (hs3 : ∀ x ∈ l3, x.f2.size ≤ 1099511627776) (hu3 : ∀ x ∈ l3, 0 ≤ x.f3 ∧ x.f3 ≤ 4294967295) (hq : pickI how 5 = 4) :
    Calls Tryd.prog 71 #[.agg #[.int .i64 f0, .int .u32 f1, .slice A2 n2 c2, .slice A3 l3.length c3, .slice A4 n4 c4], .int .i64 at_, .int .i64 how] w fun e w' =>
      ∃ v3, e = .returned (.agg #[.int .i64 f0, .int .u32 f1, .slice A2 n2 c2, v3, .slice A4 n4 c4]) ∧ Kd.R k98 98 w' w.heap.size (fun _ => True) v3 (turnedA l3 at_ how) ∧ Below w.heap.size w w' := by
  have t1 : (f0 == 1) = false := beq_eq_false_iff_ne.2 hf
  have t2 : ((l3.length : Int) == 0) = false := beq_eq_false_iff_ne.2 (by omega)
  have hne : ¬ l3.length = 0 := by omega
  have hb1 := heap_alloc_new w (.cells #[.int .i64 f0, .int .u32 f1, .slice A2 n2 c2, .slice A3 l3.length c3, .slice A4 n4 c4] 43)
  have hw1 := below_alloc (Below.refl _ w) (.cells #[.int .i64 f0, .int .u32 f1, .slice A2 n2 c2, .slice A3 l3.length c3, .slice A4 n4 c4] 43)
  have hz1 : (w.alloc (.cells #[.int .i64 f0, .int .u32 f1, .slice A2 n2 c2, .slice A3 l3.length c3, .slice A4 n4 c4] 43)).heap.size = w.heap.size + 1 := by simp
  go_enter Tryd.func71, Tryd.ntmps71
  go_upto_region 1 with (fail)
  generalize w.alloc (.cells #[.int .i64 f0, .int .u32 f1, .slice A2 n2 c2, .slice A3 l3.length c3, .slice A4 n4 c4] 43) = w1 at hb1 hw1 hz1 ⊢
  have hb2 := heap_alloc_new w1 (.cells #[.int .i64 0, .int .u32 0, .slice none 0 0, .slice none 0 0, .slice none 0 0] 43)
  rw [hz1] at hb2
  have hb1' : (w1.alloc (.cells #[.int .i64 0, .int .u32 0, .slice none 0 0, .slice none 0 0, .slice none 0 0] 43)).heap[w.heap.size]? = some (.cells #[.int .i64 f0, .int .u32 f1, .slice A2 n2 c2, .slice A3 l3.length c3, .slice A4 n4 c4] 43) := by
    rw [Lib.alloc_old w1 _ _ (by omega)]; exact hb1
  have hw2 := below_alloc hw1 (.cells #[.int .i64 0, .int .u32 0, .slice none 0 0, .slice none 0 0, .slice none 0 0] 43)
  generalize w1.alloc (.cells #[.int .i64 0, .int .u32 0, .slice none 0 0, .slice none 0 0, .slice none 0 0] 43) = w2 at hb2 hb1' hw2 ⊢
  clear hb1 hw1 hz1
  have y0 : w2.cell? ⟨w.heap.size, 0, none⟩ = some (.int .i64 f0) := Lib.cell_of_heap hb1' 0
  have y1 : w2.cell? ⟨w.heap.size, 1, none⟩ = some (.int .u32 f1) := Lib.cell_of_heap hb1' 1
  have y2 : w2.cell? ⟨w.heap.size, 2, none⟩ = some (.slice A2 n2 c2) := Lib.cell_of_heap hb1' 2
  have y3 : w2.cell? ⟨w.heap.size, 3, none⟩ = some (.slice A3 l3.length c3) := Lib.cell_of_heap hb1' 3
  have y4 : w2.cell? ⟨w.heap.size, 4, none⟩ = some (.slice A4 n4 c4) := Lib.cell_of_heap hb1' 4
  have r0 : w2.cell? ⟨w.heap.size + 1, 0, none⟩ = some (.int .i64 0) := Lib.cell_of_heap hb2 0
  have r1 : w2.cell? ⟨w.heap.size + 1, 1, none⟩ = some (.int .u32 0) := Lib.cell_of_heap hb2 1
  have r2 : w2.cell? ⟨w.heap.size + 1, 2, none⟩ = some (.slice none 0 0) := Lib.cell_of_heap hb2 2
  have r3 : w2.cell? ⟨w.heap.size + 1, 3, none⟩ = some (.slice none 0 0) := Lib.cell_of_heap hb2 3
  have r4 : w2.cell? ⟨w.heap.size + 1, 4, none⟩ = some (.slice none 0 0) := Lib.cell_of_heap hb2 4
  have fr0 : w2.frozen? ⟨w.heap.size + 1, 0, none⟩ = false := Lib.frozen_of_heap hb2 0
  have fr1 : w2.frozen? ⟨w.heap.size + 1, 1, none⟩ = false := Lib.frozen_of_heap hb2 1
  have fr2 : w2.frozen? ⟨w.heap.size + 1, 2, none⟩ = false := Lib.frozen_of_heap hb2 2
  have fr3 : w2.frozen? ⟨w.heap.size + 1, 3, none⟩ = false := Lib.frozen_of_heap hb2 3
  have fr4 : w2.frozen? ⟨w.heap.size + 1, 4, none⟩ = false := Lib.frozen_of_heap hb2 4
  have fy1 : w2.frozen? ⟨w.heap.size, 1, none⟩ = false := Lib.frozen_of_heap hb1' 1
  have hCw : Kd.C k98 w2 A3 l3.length l3 := Kd.C_below hC3 hw2
  have hT1 : ReadsRow (k98.K w2) 4 w2 A3 l3.length l3 := hCw
  have hKM : ∀ (W : World) (x : S98) (cs : List Value), k98.K w2 x cs → k98.M W w.heap.size (fun _ => False) x cs := fun W x cs hK => by rw [k98_open hK]; exact k98_mkM _ _ _ _
  go_wp2_with (at_builtin; refine Kd.R_append_rows k98 (Rr := k98.K w2) (w0 := w) w.heap.size rfl (.const (.slice none 0 0)) (.tmp 27) 41 98 (.agg #[(.string ⟨#[]⟩), (.bool false), (.string ⟨#[]⟩), (.int .u32 0)]) 48 rfl Tryd.underlying41 info98 rfl (by decide) (by decide) (.slice none 0 0) [] l3 A3 l3.length c3 (fun k => k ≠ w.heap.size ∧ k ≠ w.heap.size + 1) (fun _ => False) rfl rfl (Kd.R_nil _ _ _ _ _) hT1 (hKM _) (fun _ h => h.elim) (fun k hk => ?fr) hw2 hw2.size ?aL ?_)
  case fr => exact ⟨by have := (Array.getElem?_eq_some_iff.1 hb1').1; omega, by have := (Array.getElem?_eq_some_iff.1 hb2).1; omega⟩
  case aL => simp only [List.length_nil]; omega
  intro v1 w3 hR1 hb3 hg3 _
  obtain ⟨g, cap, ev, hgb, hgl, cells, hgc⟩ := Kd.R_form hR1 hn
  subst ev
  have hgo := hR1.1 g (by simp [Value.ownBlock])
  have b1 : w3.heap[w.heap.size]? = some (.cells #[.int .i64 f0, .int .u32 f1, .slice A2 n2 c2, .slice A3 l3.length c3, .slice A4 n4 c4] 43) := (hg3.block _ (Array.getElem?_eq_some_iff.1 hb1').1 nil_own2).trans hb1'
  have b2 : w3.heap[w.heap.size + 1]? = some (.cells #[.int .i64 0, .int .u32 0, .slice none 0 0, .slice none 0 0, .slice none 0 0] 43) := (hg3.block _ (Array.getElem?_eq_some_iff.1 hb2).1 nil_own2).trans hb2
  clear y0 y1 y2 y3 y4 r0 r1 r2 r3 r4 fr0 fr1 fr2 fr3 fr4 fy1 hb1' hb2 hT1 hKM hg3 hgc cells hCw
  obtain ⟨i, hi⟩ : ∃ i : Nat, pickI at_ l3.length = i := ⟨(pickI at_ l3.length).toNat, by have := (pickI_in at_ l3.length (by omega) (by omega)).1; omega⟩
  have hil : i < l3.length := by have := (pickI_in at_ l3.length (by omega) (by omega)).2; omega
  have hp1 := fun W => pick_same at_ l3.length (by omega) (by omega) W
  have hp2 := fun W => pick_same how 5 (by decide) (by decide) W
  obtain ⟨q0, q1⟩ := pickI_in how 5 (by decide) (by decide)
  have hres : turnedA l3 at_ how = l3.set i (turn1 (rd_T98 l3 (i : Int)) (pickI how 5) how) := by unfold turnedA; rw [hi]; rfl
  rw [hi] at hp1
  obtain ⟨c, hcl, hcM, hcc, hcf⟩ := Kd.R_elem hR1 z98 (i : Int) (by omega) (by omega)
  obtain rfl := k98_openM hcM
  rw [show l3.getD ((i : Int).toNat) z98 = rd_T98 l3 (i : Int) from rfl] at hcM hcc
  rw [rd98 hil] at hcM hcc hres
  have hx2 := hs3 _ (List.getElem_mem hil)
  have hx3 := hu3 _ (List.getElem_mem hil)
  obtain ⟨x, hx⟩ : ∃ x, x = l3[i] := ⟨_, rfl⟩
  rw [← hx] at hcM hcc hx2 hx3 hres
  rw [hq] at hp2 q0 q1 hres
  have Hres := Lib.hid hres
  clear hx hq hres hi hcM
  obtain ⟨xk, xi, xv, xf⟩ := x
  have e0 : w3.cell? ⟨g, i * 4, none⟩ = some (.string xk) := hcc 0 _ rfl
  have e1 : w3.cell? ⟨g, i * 4 + 1, none⟩ = some (.bool xi) := hcc 1 _ rfl
  have e2 : w3.cell? ⟨g, i * 4 + 2, none⟩ = some (.string xv) := hcc 2 _ rfl
  have e3 : w3.cell? ⟨g, i * 4 + 3, none⟩ = some (.int .u32 xf) := hcc 3 _ rfl
  have Hcc := Lib.hid hcc
  clear hcc hcf
  go_wp2_with fail
  refine (hp1 _).mono ?_
  rintro e w4 ⟨rfl, rfl⟩
  go_wp2_with fail
  refine (hp2 _).mono ?_
  rintro e w5 ⟨rfl, rfl⟩
  go_wp2_with ((with_reducible refine gate_ (.store 98 (.tmp 43) (.tmp 42)) rfl ?_); refine Kd.R_store k98 (w0 := w) w.heap.size rfl rfl 98 (.tmp 43) (.tmp 42) rfl 98 (i : Int) 0 l3 ⟨xk, false, ⟨#[]⟩, 0⟩ (.agg #[.string xk, .bool false, .string ⟨#[]⟩, .int .u32 0]) [.string xk, .bool false, .string ⟨#[]⟩, .int .u32 0] [.string xk, .bool xi, .string xv, .int .u32 xf] (fun k => ¬k = w.heap.size ∧ ¬k = w.heap.size + 1) (fun _ => False) rfl rfl rfl rfl size98' (by simp [Value.oneCell']) hR1 (by omega) (by omega) rfl Hcc.out (Nat.le_of_ble_eq_true rfl) (k98_mkM _ _ _ ⟨xk, false, ⟨#[]⟩, 0⟩) (fun _ h => h.elim) hb3 ?_)
  intro w6 hR6 hb6 hg6
  have hl1 : w.heap.size < (w5).heap.size := by have := (Array.getElem?_eq_some_iff.1 b1).1; omega
  have d1 := (hg6.block _ (Array.getElem?_eq_some_iff.1 b1).1 (fun e => hgo.1 (Option.some.inj e).symm)).trans b1
  have d2 := (hg6.block _ (Array.getElem?_eq_some_iff.1 b2).1 (fun e => hgo.2 (Option.some.inj e).symm)).trans b2
  have y0 : w6.cell? ⟨w.heap.size, 0, none⟩ = some (.int .i64 f0) := Lib.cell_of_heap d1 0
  have y1 : w6.cell? ⟨w.heap.size, 1, none⟩ = some (.int .u32 f1) := Lib.cell_of_heap d1 1
  have y2 : w6.cell? ⟨w.heap.size, 2, none⟩ = some (.slice A2 n2 c2) := Lib.cell_of_heap d1 2
  have y3 : w6.cell? ⟨w.heap.size, 3, none⟩ = some (.slice A3 l3.length c3) := Lib.cell_of_heap d1 3
  have y4 : w6.cell? ⟨w.heap.size, 4, none⟩ = some (.slice A4 n4 c4) := Lib.cell_of_heap d1 4
  have fy3 : w6.frozen? ⟨w.heap.size, 3, none⟩ = false := Lib.frozen_of_heap d1 3
  have r0 : w6.cell? ⟨w.heap.size + 1, 0, none⟩ = some (.int .i64 0) := Lib.cell_of_heap d2 0
  have r1 : w6.cell? ⟨w.heap.size + 1, 1, none⟩ = some (.int .u32 0) := Lib.cell_of_heap d2 1
  have r2 : w6.cell? ⟨w.heap.size + 1, 2, none⟩ = some (.slice none 0 0) := Lib.cell_of_heap d2 2
  have r3 : w6.cell? ⟨w.heap.size + 1, 3, none⟩ = some (.slice none 0 0) := Lib.cell_of_heap d2 3
  have r4 : w6.cell? ⟨w.heap.size + 1, 4, none⟩ = some (.slice none 0 0) := Lib.cell_of_heap d2 4
  have fr0 : w6.frozen? ⟨w.heap.size + 1, 0, none⟩ = false := Lib.frozen_of_heap d2 0
  have fr1 : w6.frozen? ⟨w.heap.size + 1, 1, none⟩ = false := Lib.frozen_of_heap d2 1
  have fr2 : w6.frozen? ⟨w.heap.size + 1, 2, none⟩ = false := Lib.frozen_of_heap d2 2
  have fr3 : w6.frozen? ⟨w.heap.size + 1, 3, none⟩ = false := Lib.frozen_of_heap d2 3
  have fr4 : w6.frozen? ⟨w.heap.size + 1, 4, none⟩ = false := Lib.frozen_of_heap d2 4
  have hfin : l3.set i ⟨xk, false, ⟨#[]⟩, 0⟩ = turnedA l3 at_ how := by rw [Hres.out]; exact congrArg _ (turn1_4 ⟨xk, xi, xv, xf⟩ how).symm
  rw [show (i : Int).toNat = i from rfl, hfin] at hR6
  clear hfin d1 d2 hg6 hl1
  go_wp2
  refine bodyPost_ret (v := .agg #[.int .i64 f0, .int .u32 f1, .slice A2 n2 c2, .slice (some ⟨g, 0, none⟩) l3.length cap, .slice A4 n4 c4]) (by simp [results, Tryd.results71, go_sem, r0, r1, r2, r3, r4]) rfl ⟨_, rfl, ?_, ?_⟩
  · refine Kd.R_mono (ok := fun k => ¬k = w.heap.size ∧ ¬k = w.heap.size + 1) ?_ (fun _ _ => trivial)
    repeat (first | (with_reducible exact hR6) | (refine Kd.R_far ?_ (fun k hk => by first | exact hk.1 | exact hk.2) _))
  · repeat (first | (with_reducible exact hb6) | (refine Below.setCell ?_ (by simp) _))
theorem turned_some (f0 f1 : Int) (A2 : Option Addr) (n2 c2 : Nat) (A3 : Option Addr) (c3 : Nat) (l3 : List S98) (A4 : Option Addr) (n4 c4 : Nat) (at_ how : Int) (w : World) (hf : ¬ f0 = 1) (hn : 0 < l3.length) (hl3 : l3.length ≤ 1048576)
    (hC3 : Kd.C k98 w A3 l3.length l3) (hs3 : ∀ x ∈ l3, x.f2.size ≤ 1099511627776) (hu3 : ∀ x ∈ l3, 0 ≤ x.f3 ∧ x.f3 ≤ 4294967295) (hT : Tabs w) :
    Calls Tryd.prog 71 #[.agg #[.int .i64 f0, .int .u32 f1, .slice A2 n2 c2, .slice A3 l3.length c3, .slice A4 n4 c4], .int .i64 at_, .int .i64 how] w fun e w' =>
      ∃ v3, e = .returned (.agg #[.int .i64 f0, .int .u32 f1, .slice A2 n2 c2, v3, .slice A4 n4 c4]) ∧ Kd.R k98 98 w' w.heap.size (fun _ => True) v3 (turnedA l3 at_ how) ∧ Below w.heap.size w w' := by
  obtain ⟨q0, q1⟩ := pickI_in how 5 (by decide) (by decide)
  rcases (by omega : pickI how 5 = 0 ∨ pickI how 5 = 1 ∨ pickI how 5 = 2 ∨ pickI how 5 = 3 ∨ pickI how 5 = 4) with h | h | h | h | h
  · exact turned_some0 f0 f1 A2 n2 c2 A3 c3 l3 A4 n4 c4 at_ how w hf hn hl3 hC3 hs3 hu3 h
  · exact turned_some1 f0 f1 A2 n2 c2 A3 c3 l3 A4 n4 c4 at_ how w hf hn hl3 hC3 hs3 hu3 h
  · exact turned_some2 f0 f1 A2 n2 c2 A3 c3 l3 A4 n4 c4 at_ how w hf hn hl3 hC3 hs3 hu3 h
  · exact turned_some3 f0 f1 A2 n2 c2 A3 c3 l3 A4 n4 c4 at_ how w hf hn hl3 hC3 hs3 hu3 hT h
  · exact turned_some4 f0 f1 A2 n2 c2 A3 c3 l3 A4 n4 c4 at_ how w hf hn hl3 hC3 hs3 hu3 h
end Go.Proofs.YtfaelejeihmgcaaDoor.Lgx
end

section
namespace Go.Proofs.YtfaelejeihmgcaaDoor.Lgx
open Go.RowKit Go.Proofs.YtfaelejeihmgcaaDoorW.PrintWords Go.Proofs.YtfaelejeihmgcaaDoorW.PrintLast
def turnE (e : S43) (at_ how : Int) : S43 :=
  if e.f0 = 1 then ⟨1, e.f1 / 2 + pickI at_ 3, e.f2, e.f3, e.f4⟩
  else if e.f3.length = 0 then e else ⟨e.f0, e.f1, e.f2, turnedA e.f3 at_ how, e.f4⟩
theorem turned_all (x : S43) (v2 v3 v4 : Value) (at_ how : Int) (w : World) (base : Nat) (ok : Nat → Prop) (h2 : Kd.R k101 101 w base ok v2 x.f2) (h3 : Kd.R k98 98 w base ok v3 x.f3) (h4 : Kd.R Kd.string 9 w base ok v4 x.f4)
    (hbase : base ≤ w.heap.size) (hok : ∀ k, w.heap.size ≤ k → ok k) (h0 : 0 ≤ x.f1) (h1 : x.f1 ≤ 4294967295) (hl3 : x.f3.length ≤ 1048576) (hs3 : ∀ y ∈ x.f3, y.f2.size ≤ 1099511627776) (hu3 : ∀ y ∈ x.f3, 0 ≤ y.f3 ∧ y.f3 ≤ 4294967295) (hT : Tabs w) :
    Calls Tryd.prog 71 #[.agg #[.int .i64 x.f0, .int .u32 x.f1, v2, v3, v4], .int .i64 at_, .int .i64 how] w fun e w' =>
      ∃ v3', e = .returned (.agg #[.int .i64 (turnE x at_ how).f0, .int .u32 (turnE x at_ how).f1, v2, v3', v4]) ∧ Kd.R k98 98 w' base ok v3' (turnE x at_ how).f3 ∧ ((turnE x at_ how).f2 = x.f2 ∧ (turnE x at_ how).f4 = x.f4) ∧ Below w.heap.size w w' := by
  obtain ⟨A2, c2, e2⟩ := Kd.R_slice h2
  obtain ⟨A3, c3, e3⟩ := Kd.R_slice h3
  obtain ⟨A4, c4, e4⟩ := Kd.R_slice h4
  obtain ⟨_, _, hC3⟩ := Kd.R_reads' (e3 ▸ h3)
  subst e2 e4
  obtain ⟨x0, x1, x2, x3, x4⟩ := x
  by_cases hf : x0 = 1
  · subst hf
    subst e3
    have ht : turnE ⟨1, x1, x2, x3, x4⟩ at_ how = ⟨1, x1 / 2 + pickI at_ 3, x2, x3, x4⟩ := by simp [turnE]
    rw [ht]
    exact (turned_commit x1 A2 x2.length c2 A3 x3.length c3 A4 x4.length c4 at_ how w h0 h1).mono fun e w' ⟨he, hb⟩ => ⟨_, he, Kd.R_below h3 hb, ⟨rfl, rfl⟩, hb⟩
  · by_cases hn : x3.length = 0
    · obtain rfl : x3 = [] := List.length_eq_zero_iff.1 hn
      subst e3
      have ht : turnE ⟨x0, x1, x2, [], x4⟩ at_ how = ⟨x0, x1, x2, [], x4⟩ := by simp [turnE, hf]
      rw [ht]
      exact (turned_none x0 x1 A2 x2.length c2 A3 c3 A4 x4.length c4 at_ how w hf).mono fun e w' ⟨he, hb⟩ => ⟨_, he, Kd.R_below h3 hb, ⟨rfl, rfl⟩, hb⟩
    · subst e3
      have ht : turnE ⟨x0, x1, x2, x3, x4⟩ at_ how = ⟨x0, x1, x2, turnedA x3 at_ how, x4⟩ := by
        simp only [turnE, if_neg hf, if_neg hn]
      rw [ht]
      exact (turned_some x0 x1 A2 x2.length c2 A3 c3 x3 A4 x4.length c4 at_ how w hf (Nat.pos_of_ne_zero hn) hl3 hC3 hs3 hu3 hT).mono fun e w' ⟨v3, he, hR, hb⟩ => ⟨v3, he, Kd.R_lower (Kd.R_mono (Kd.R_bound hR) (fun k hk => hok k hk.2.1)) hbase, ⟨rfl, rfl⟩, hb⟩
end Go.Proofs.YtfaelejeihmgcaaDoor.Lgx
end

section
namespace Go.Proofs.YtfaelejeihmgcaaDoor.Lgx
open Go.RowKit Go.Proofs.YtfaelejeihmgcaaDoorW.PrintWords Go.Proofs.YtfaelejeihmgcaaDoorW.PrintLast
theorem put5 {W : World} {g : Nat} {a0 a1 a2 a3 a4 : Value} (h : W.heap[g]? = some (.cells #[a0, a1, a2, a3, a4] 43)) (b0 b1 b2 b3 b4 : Value) :
    (((((W.setCell ⟨g, 0, none⟩ b0).setCell ⟨g, 1, none⟩ b1).setCell ⟨g, 2, none⟩ b2).setCell ⟨g, 3, none⟩ b3).setCell ⟨g, 4, none⟩ b4).heap[g]? = some (.cells #[b0, b1, b2, b3, b4] 43) := by
  simp [World.setCell, Array.getElem?_modify, h]
theorem set_grown (W : World) (g j : Nat) (v : Value) : W.grownBy (W.setCell ⟨g, j, none⟩ v) (some g) :=
  ⟨rfl, rfl, rfl, by simp [World.setCell], fun i _ hne => Below.heap_setCell _ _ _ _ (fun e => hne (by rw [e]))⟩
theorem grown5 (W : World) (g : Nat) (b0 b1 b2 b3 b4 : Value) :
    W.grownBy (((((W.setCell ⟨g, 0, none⟩ b0).setCell ⟨g, 1, none⟩ b1).setCell ⟨g, 2, none⟩ b2).setCell ⟨g, 3, none⟩ b3).setCell ⟨g, 4, none⟩ b4) (some g) :=
  ((((set_grown W g 0 b0).trans (set_grown _ g 1 b1)).trans (set_grown _ g 2 b2)).trans (set_grown _ g 3 b3)).trans (set_grown _ g 4 b4)
structure St (w W : World) (b n : Nat) (vm : Value) (L : List S98) (vo : Value) (out : List S43) (xc : Array Value) (ec : Array Value) : Prop where
  I : RefIs W w.heap.size b vm L
  O : Kd.R k43 43 W w.heap.size (fun q => q ≠ b ∧ q < n) vo out
  X : W.heap[n]? = some (.cells xc 58)
  E : W.heap[n + 1]? = some (.cells ec 43)
  B : Below w.heap.size w W
  hn : b < n
section
variable {w W : World} {b n : Nat} {vm : Value} {L : List S98} {vo : Value} {out : List S43} {xc ec : Array Value} {a0 a1 a2 a3 a4 : Value}
theorem St.lt (s : St w W b n vm L vo out xc ec) : n + 1 < W.heap.size := (Array.getElem?_eq_some_iff.1 s.E).1
theorem St.below (s : St w W b n vm L vo out xc ec) {W' : World} (h : Below W.heap.size W W') : St w W' b n vm L vo out xc ec :=
  ⟨s.I.below h, Kd.R_below s.O h, (h.block n (Nat.lt_of_succ_lt s.lt)).trans s.X, (h.block (n + 1) s.lt).trans s.E, below_then s.B s.B.size h, s.hn⟩
/-- the event's box is written -/
theorem St.put (s : St w W b n vm L vo out xc #[a0, a1, a2, a3, a4]) (b0 b1 b2 b3 b4 : Value) :
    St w (((((W.setCell ⟨n + 1, 0, none⟩ b0).setCell ⟨n + 1, 1, none⟩ b1).setCell ⟨n + 1, 2, none⟩ b2).setCell ⟨n + 1, 3, none⟩ b3).setCell ⟨n + 1, 4, none⟩ b4) b n vm L vo out xc #[b0, b1, b2, b3, b4] := by
  have hg := grown5 W (n + 1) b0 b1 b2 b3 b4
  have hp := put5 s.E b0 b1 b2 b3 b4
  have hlt := s.lt
  have hn := s.hn
  have hB : w.heap.size ≤ n + 1 := Nat.le_trans s.I.hB (by omega)
  generalize (((((W.setCell ⟨n + 1, 0, none⟩ b0).setCell ⟨n + 1, 1, none⟩ b1).setCell ⟨n + 1, 2, none⟩ b2).setCell ⟨n + 1, 3, none⟩ b3).setCell ⟨n + 1, 4, none⟩ b4) = W' at hg hp ⊢
  refine ⟨⟨?_, ?_, s.I.hB⟩, Kd.R_grown s.O hg (fun k hk e => by have := Option.some.inj e; have := hk.2; omega), ?_, hp, pw_below_grown s.B _ s.B.size hg (fun k e => by cases e; exact hB), hn⟩
  · rw [hg.block b s.I.lt (fun e => by have := Option.some.inj e; omega)]; exact s.I.cell
  · exact Kd.R_mono (Kd.R_grown (Kd.R_types s.I.row s.E (by decide)) hg (fun k hk e => hk.2 (Option.some.inj e))) (fun _ hk => hk.1)
  · rw [hg.block n (by omega) (fun e => by have := Option.some.inj e; omega)]; exact s.X
/-- the map is written -/
theorem St.ref (s : St w W b n vm L vo out xc ec) {W' : World} {vm' : Value} {L' : List S98} (hI : RefIs W' w.heap.size b vm' L') (hg : W.grownBy W' (some b)) : St w W' b n vm' L' vo out xc ec := by
  have hlt := s.lt
  have hn := s.hn
  exact ⟨hI, Kd.R_grown s.O hg (fun k hk e => hk.1 (Option.some.inj e)), (hg.block n (by omega) (fun e => by have := Option.some.inj e; omega)).trans s.X, (hg.block (n + 1) hlt (fun e => by have := Option.some.inj e; omega)).trans s.E, pw_below_grown s.B _ s.B.size hg (fun k e => by cases e; exact s.I.hB), hn⟩
/-- the map's pointer behind an append to the row of events -/
theorem RefIs.over {W' : World} {ok : Nat → Prop} (h : RefIs W w.heap.size b vm L) (hO : Kd.R k43 43 W w.heap.size ok vo out) (hok : ∀ q, ok q → q ≠ b) (hg : W.grownBy W' vo.ownBlock) : RefIs W' w.heap.size b vm L :=
  ⟨(hg.block b h.lt (Kd.R_away hO hok)).trans h.cell, Kd.R_over' h.row (Kd.R_typed hO) (by decide) hg, h.hB⟩
/-- what an event's rows own stands apart from the map and the row of events -/
theorem St.apart (s : St w W b n vm L vo out xc ec) : ∀ k, n + 1 < k → k ≠ b ∧ some k ≠ vo.ownBlock := fun k hk => by
  have hn := s.hn
  exact ⟨by omega, fun e => by have := (s.O.1 k e.symm).2; omega⟩
end
structure OkRow (e : S43) (L L' : List S98) : Prop where
  Lw : L.length + e.f2.length ≤ 1048576
  L2 : L'.length ≤ 1048576
  sL : Short98 L
  sw : ∀ y ∈ e.f2, y.f0.size ≤ 1099511627776
  l3 : e.f3.length ≤ 1048576
  l4 : e.f4.length ≤ 1048576
  s3 : ∀ y ∈ e.f3, y.f2.size ≤ 1099511627776
  u3 : ∀ y ∈ e.f3, 0 ≤ y.f3 ∧ y.f3 ≤ 4294967295
  q0 : 0 ≤ e.f1
  q1 : e.f1 ≤ 4294967295
/-- what the walk of a row wants of what the row turns to -/
def okRow (e : S43) (L L' : List S98) : Bool :=
  decide (L.length + e.f2.length ≤ 1048576) && (decide (L'.length ≤ 1048576) && (L.all (fun y => decide (y.f0.size ≤ 1099511627776)) && (e.f2.all (fun y => decide (y.f0.size ≤ 1099511627776)) &&
  (decide (e.f3.length ≤ 1048576) && (decide (e.f4.length ≤ 1048576) && (e.f3.all (fun y => decide (y.f2.size ≤ 1099511627776) && (decide (0 ≤ y.f3) && decide (y.f3 ≤ 4294967295))) && (decide (0 ≤ e.f1) && decide (e.f1 ≤ 4294967295))))))))
theorem okRow_is {e : S43} {L L' : List S98} (h : okRow e L L' = true) : OkRow e L L' := by
  unfold okRow at h
  simp only [Bool.and_eq_true, decide_eq_true_eq, List.all_eq_true] at h
  obtain ⟨h1, h2, h3, h4, h5, h6, h7, h8, h9⟩ := h
  exact ⟨h1, h2, h3, h4, h5, h6, fun y hy => (h7 y hy).1, fun y hy => (h7 y hy).2, h8, h9⟩
end Go.Proofs.YtfaelejeihmgcaaDoor.Lgx
end

section
namespace Go.Proofs.YtfaelejeihmgcaaDoor.Lgx
open Go.RowKit Go.Proofs.YtfaelejeihmgcaaDoorW.PrintWords Go.Proofs.YtfaelejeihmgcaaDoorW.PrintLast
/-- the next number -/
def nextSeq (seq f1 : Int) : Int := (seq + (1 + Int.tmod f1 3) % 4294967296) % 4294967296
/-- what a row turns to: the event, the number, the reference's rows -/
def row1 (x : S58) (seq : Int) (L : List S98) : Option (S43 × Int × List S98) :=
  if pickI x.f0 8 = 3 then (cachepothand_Keys.f 1000 x.f3 4).bind fun ks => some (⟨3, 0, [], [], ks⟩, seq, forgetF ks L)
  else if pickI x.f0 8 = 4 ∨ pickI x.f0 8 = 5 ∨ pickI x.f0 8 = 6 then (cachepothand_Keys.f 1000 x.f3 5).bind fun ks => some (⟨2, 0, [], refGetF L ks, []⟩, seq, L)
  else if pickI x.f0 8 = 7 then (cachepotlaw21_short.f 1000 x.f4.f0 x.f4.f1 x.f4.f2 x.f4.f3 x.f4.f4).bind fun r => some (⟨r.1, r.2.1, r.2.2.1, r.2.2.2.1, r.2.2.2.2⟩, seq, L)
  else (cachepothand_Writes.f 1000 x.f2 5).bind fun ws => some (⟨1, nextSeq seq x.f1, ws, [], []⟩, nextSeq seq x.f1, commitF (nextSeq seq x.f1) ws L)
def eventsG : List S58 → Int → Nat → Int → List S98 → List S43 → Option (List S43)
  | [], _, _, _, _, out => some out
  | x :: l, turn, i, seq, L, out => if i < 30 then
      (row1 x seq L).bind fun r => if okRow r.1 L r.2.2 = true then eventsG l turn (i + 1) r.2.1 r.2.2 (out ++ [if (i : Int) = turn then turnE r.1 x.f5 x.f6 else r.1]) else none
    else some out
def cachepotlaw21_events.f (l : List S58) (turn : Int) : Option (List S43) := if l.length ≤ 9223372036854775807 then eventsG l turn 0 0 [] [] else none
theorem rd58 {l : List S58} {k : Nat} (h : k < l.length) : rd_T58 l (k : Int) = l[k] := by
  unfold rd_T58
  rw [List.getD_eq_getElem?_getD, Int.toNat_natCast, List.getElem?_eq_getElem h]
  rfl
set_option maxHeartbeats 8000000 in
set_option maxRecDepth 100000 in
theorem cachepotlaw21_events.calls (A0 : Option Addr) (c0 : Nat) (l0 : List (S58)) (a1 : Int) (r : List S43) (w : World) (hr0 : Kd.C k58 w A0 l0.length l0) (hc0 : l0.length ≤ c0) (h : cachepotlaw21_events.f l0 a1 = some r) (hT : Tabs w) :
    Calls Tryd.prog 34 #[.slice A0 l0.length c0, .int .i64 a1] w fun e w' => ∃ v0_ : Value, e = .returned v0_ ∧ Kd.R k43 43 w' w.heap.size (fun _ => True) v0_ r ∧ Below w.heap.size w w' := by
  have hlen : l0.length ≤ 9223372036854775807 := by
    unfold cachepotlaw21_events.f at h
    split at h
    · assumption
    · cases h
  have hq : Aside0 (eventsG l0 a1 0 0 [] [] = some r) := ⟨by unfold cachepotlaw21_events.f at h; rw [if_pos hlen] at h; exact h⟩
  have HC0 := Lib.hid hc0
  clear h hc0
  go_enter Tryd.func34, Tryd.ntmps34
  go_wp2
  have hb1 := below_alloc (Below.refl _ w) (.cells #[.slice none 0 0] 104)
  have hA1 : RefIs (w.alloc (.cells #[.slice none 0 0] 104)) w.heap.size w.heap.size (.slice none 0 0) [] := ⟨heap_alloc_new w _, Kd.R_nil _ _ _ _ _, Nat.le_refl _⟩
  generalize w.alloc (.cells #[.slice none 0 0] 104) = w1 at hb1 hA1 ⊢
  go_loopw [6, 7, 8] (fun vo vs i wr => ∃ (k : Nat) (seq : Int) (vm : Value) (L : List S98) (out : List S43), k ≤ l0.length ∧ k ≤ 30 ∧ i = .int .i64 k ∧ vs = .int .u32 seq ∧ out.length = k ∧ RefIs wr w.heap.size w.heap.size vm L ∧ Kd.R k43 43 wr w.heap.size (fun q => q ≠ w.heap.size) vo out ∧ Below w.heap.size w wr ∧ Aside0 (eventsG (l0.drop k) a1 k seq L out = some r)) (fun _ _ i _ => l0.length - (intOf i).toNat)
  case atStart => exact ⟨0, 0, _, [], [], Nat.zero_le _, Nat.zero_le _, rfl, rfl, rfl, hA1, Kd.R_nil _ _ _ _ _, hb1, by rw [List.drop_zero]; exact hq⟩
  case round =>
    clear hA1 hb1 hq
    obtain ⟨k, seq, vm, L, out, hkl, hk30, rfl, rfl, hol, hI, hRo, hb, hq⟩ := hrel
    by_cases hgo : k < l0.length ∧ k < 30
    · obtain ⟨hlt, hlt30⟩ := hgo
      obtain ⟨ad, A2, c2, A3, c3, A6, c6, A7, c7, A8, c8, e, x0, x1, x2, x3, x4, x5, x6, x7, x8, x9, x10, l2, g2, l3, g3, l6, g6, l7, g7, l8, g8⟩ := at_T58 hr0 k (by omega) (by omega)
      cases e
      rw [rd58 hlt] at x0 x1 x2 x3 x4 x5 x6 x7 x8 x9 x10 l2 g2 l3 g3 l6 g6 l7 g7 l8 g8
      have hqs := hq.out
      rw [List.drop_eq_getElem_cons hlt, eventsG, if_pos hlt30] at hqs
      obtain ⟨x, hx⟩ : ∃ x, x = l0[k] := ⟨_, rfl⟩
      rw [← hx] at x0 x1 x2 x3 x4 x5 x6 x7 x8 x9 x10 l2 g2 l3 g3 l6 g6 l7 g7 l8 g8 hqs
      obtain ⟨⟨ev, seq', L'⟩, hrow, hqs⟩ := Option.bind_eq_some_iff.1 hqs
      split at hqs
      case isFalse => cases hqs
      rename_i hokr
      simp only [Int.toNat_natCast] at x0 x1 x2 x3 x4 x5 x6 x7 x8 x9 x10
      replace x0 := (hb.cell (World.block_lt_of_cell? w _ x0)).trans x0
      replace x1 := (hb.cell (World.block_lt_of_cell? w _ x1)).trans x1
      replace x2 := (hb.cell (World.block_lt_of_cell? w _ x2)).trans x2
      replace x3 := (hb.cell (World.block_lt_of_cell? w _ x3)).trans x3
      replace x4 := (hb.cell (World.block_lt_of_cell? w _ x4)).trans x4
      replace x5 := (hb.cell (World.block_lt_of_cell? w _ x5)).trans x5
      replace x6 := (hb.cell (World.block_lt_of_cell? w _ x6)).trans x6
      replace x7 := (hb.cell (World.block_lt_of_cell? w _ x7)).trans x7
      replace x8 := (hb.cell (World.block_lt_of_cell? w _ x8)).trans x8
      replace x9 := (hb.cell (World.block_lt_of_cell? w _ x9)).trans x9
      replace x10 := (hb.cell (World.block_lt_of_cell? w _ x10)).trans x10
      have Hrow := Lib.hid hrow
      have Hokr := Lib.hid hokr
      have Hqs := Lib.hid hqs
      have HL2 := Lib.hid l2
      have HL3 := Lib.hid l3
      have HL6 := Lib.hid l6
      have HL7 := Lib.hid l7
      have HL8 := Lib.hid l8
      clear hx hq hqs hrow hokr l2 l3 l6 l7 l8
      obtain ⟨xq, xs, xl, xk, ⟨y0, y1, y2, y3, y4⟩, xa, xh⟩ := x
      have d30 : decide (k < 30) = true := decide_eq_true hlt30
      have d31 : decide ((k : Int) < 30) = true := decide_eq_true (by omega)
      have hblt := hI.lt
      go_wp2_with fail
      obtain ⟨n, hn⟩ : ∃ n, n = wr.heap.size := ⟨_, rfl⟩
      have s0 : St w ((wr.alloc (.cells #[.int .i64 xq, .int .u32 xs, .slice A2 xl.length c2, .slice A3 xk.length c3, .int .i64 y0, .int .u32 y1, .slice A6 y2.length c6, .slice A7 y3.length c7, .slice A8 y4.length c8, .int .i64 xa, .int .i64 xh] 58)).alloc (.cells #[.int .i64 0, .int .u32 0, .slice none 0 0, .slice none 0 0, .slice none 0 0] 43)) w.heap.size n vm L u6 out
          #[.int .i64 xq, .int .u32 xs, .slice A2 xl.length c2, .slice A3 xk.length c3, .int .i64 y0, .int .u32 y1, .slice A6 y2.length c6, .slice A7 y3.length c7, .slice A8 y4.length c8, .int .i64 xa, .int .i64 xh] #[.int .i64 0, .int .u32 0, .slice none 0 0, .slice none 0 0, .slice none 0 0] := by
        have h1 := below_alloc (Below.refl _ wr) (.cells #[.int .i64 xq, .int .u32 xs, .slice A2 xl.length c2, .slice A3 xk.length c3, .int .i64 y0, .int .u32 y1, .slice A6 y2.length c6, .slice A7 y3.length c7, .slice A8 y4.length c8, .int .i64 xa, .int .i64 xh] 58)
        have hx := heap_alloc_new wr (.cells #[.int .i64 xq, .int .u32 xs, .slice A2 xl.length c2, .slice A3 xk.length c3, .int .i64 y0, .int .u32 y1, .slice A6 y2.length c6, .slice A7 y3.length c7, .slice A8 y4.length c8, .int .i64 xa, .int .i64 xh] 58)
        have hz : (wr.alloc (.cells #[.int .i64 xq, .int .u32 xs, .slice A2 xl.length c2, .slice A3 xk.length c3, .int .i64 y0, .int .u32 y1, .slice A6 y2.length c6, .slice A7 y3.length c7, .slice A8 y4.length c8, .int .i64 xa, .int .i64 xh] 58)).heap.size = n + 1 := by simp [hn]
        generalize wr.alloc (.cells #[.int .i64 xq, .int .u32 xs, .slice A2 xl.length c2, .slice A3 xk.length c3, .int .i64 y0, .int .u32 y1, .slice A6 y2.length c6, .slice A7 y3.length c7, .slice A8 y4.length c8, .int .i64 xa, .int .i64 xh] 58) = W1 at h1 hx hz ⊢
        have h2 := below_alloc h1 (.cells #[.int .i64 0, .int .u32 0, .slice none 0 0, .slice none 0 0, .slice none 0 0] 43)
        have he := heap_alloc_new W1 (.cells #[.int .i64 0, .int .u32 0, .slice none 0 0, .slice none 0 0, .slice none 0 0] 43)
        rw [hz] at he
        rw [← hn] at hx
        refine ⟨hI.below h2, Kd.R_below (Kd.R_mono (Kd.R_bound hRo) (fun q hq => ⟨hq.1, by have := hq.2.2.1; omega⟩)) h2, ?_, he, below_then hb hb.size h2, by omega⟩
        rw [Lib.alloc_old W1 _ _ (by omega)]
        exact hx
      subst hn
      generalize ((wr.alloc (.cells #[.int .i64 xq, .int .u32 xs, .slice A2 xl.length c2, .slice A3 xk.length c3, .int .i64 y0, .int .u32 y1, .slice A6 y2.length c6, .slice A7 y3.length c7, .slice A8 y4.length c8, .int .i64 xa, .int .i64 xh] 58)).alloc (.cells #[.int .i64 0, .int .u32 0, .slice none 0 0, .slice none 0 0, .slice none 0 0] 43)) = W at s0 ⊢
      clear x0 x1 x2 x3 x4 x5 x6 x7 x8 x9 x10 hI hRo hb d30 d31
      refine (pick_same xq 8 (by decide) (by decide) _).mono ?_
      rintro e w4 ⟨rfl, rfl⟩
      obtain ⟨p0, p1⟩ := pickI_in xq 8 (by decide) (by decide)
      have hrow := Hrow.out
      simp only [row1] at hrow
      obtain ⟨q, hqe⟩ : ∃ q, q = pickI xq 8 := ⟨_, rfl⟩
      rw [← hqe] at hrow p0 p1 ⊢
      clear hqe Hrow
      by_cases q3 : q = 3
      · subst q3
        rw [if_pos rfl] at hrow
        obtain ⟨ks, hks, hrow⟩ := Option.bind_eq_some_iff.1 hrow
        simp only [Option.some.injEq, Prod.mk.injEq] at hrow
        obtain ⟨rfl, rfl, rfl⟩ := hrow
        have Hks := Lib.hid hks
        clear hks
        have z3 : w4.cell? ⟨wr.heap.size, 3, none⟩ = some (.slice A3 xk.length c3) := Lib.cell_of_heap s0.X 3
        go_wp2_with fail
        refine (cachepothand_Keys.calls 1000 A3 c3 xk 4 ks _ (Kd.C_below g3 s0.B) HL3.out Hks.out (hT.below s0.B)).mono ?_
        rintro e w5 ⟨vk, rfl, hRk, hb5⟩
        have s1 := s0.below hb5
        have hok1 := Kd.R_lower (Kd.R_mono (Kd.R_bound hRk) (fun q hq => (by have := s0.lt; have := hq.2.1; omega : wr.heap.size + 1 < q))) s0.B.size
        clear hRk hb5 z3
        obtain ⟨Ak, ck, ek⟩ := Kd.R_slice hok1
        subst ek
        have e0 : w5.cell? ⟨wr.heap.size + 1, 0, none⟩ = some (.int .i64 0) := Lib.cell_of_heap s1.E 0
        have e1 : w5.cell? ⟨wr.heap.size + 1, 1, none⟩ = some (.int .u32 0) := Lib.cell_of_heap s1.E 1
        have e2 : w5.cell? ⟨wr.heap.size + 1, 2, none⟩ = some (.slice none 0 0) := Lib.cell_of_heap s1.E 2
        have e3 : w5.cell? ⟨wr.heap.size + 1, 3, none⟩ = some (.slice none 0 0) := Lib.cell_of_heap s1.E 3
        have e4 : w5.cell? ⟨wr.heap.size + 1, 4, none⟩ = some (.slice none 0 0) := Lib.cell_of_heap s1.E 4
        have f0 : w5.frozen? ⟨wr.heap.size + 1, 0, none⟩ = false := Lib.frozen_of_heap s1.E 0
        have f1 : w5.frozen? ⟨wr.heap.size + 1, 1, none⟩ = false := Lib.frozen_of_heap s1.E 1
        have f2 : w5.frozen? ⟨wr.heap.size + 1, 2, none⟩ = false := Lib.frozen_of_heap s1.E 2
        have f3 : w5.frozen? ⟨wr.heap.size + 1, 3, none⟩ = false := Lib.frozen_of_heap s1.E 3
        have f4 : w5.frozen? ⟨wr.heap.size + 1, 4, none⟩ = false := Lib.frozen_of_heap s1.E 4
        go_wp2_with fail
        have s2 := s1.put (.int .i64 3) (.int .u32 0) (.slice none 0 0) (.slice none 0 0) (.slice Ak ks.length ck)
        have hok2 := Kd.R_grown hok1 (grown5 w5 (wr.heap.size + 1) (.int .i64 3) (.int .u32 0) (.slice none 0 0) (.slice none 0 0) (.slice Ak ks.length ck)) (fun k hk e => by have := Option.some.inj e; omega)
        generalize (((((w5.setCell ⟨wr.heap.size + 1, 0, none⟩ (.int .i64 3)).setCell ⟨wr.heap.size + 1, 1, none⟩ (.int .u32 0)).setCell ⟨wr.heap.size + 1, 2, none⟩ (.slice none 0 0)).setCell ⟨wr.heap.size + 1, 3, none⟩ (.slice none 0 0)).setCell ⟨wr.heap.size + 1, 4, none⟩ (.slice Ak ks.length ck)) = W6 at s2 hok2 ⊢
        clear e0 e1 e2 e3 e4 f0 f1 f2 f3 f4 s1 s0 hok1
        have hOk := okRow_is Hokr.out
        refine (ref_Forget w.heap.size w.heap.size vm L Ak ck ks W6 s2.I (fun W' hg => (Kd.R_reads' (Kd.R_grown hok2 hg (fun k hk e => by have := Option.some.inj e; have := s2.hn; omega))).2.2) (by have := hOk.Lw; omega) hOk.l4).mono ?_
        rintro e w7 ⟨rfl, vm', hI7, hg7⟩
        have s3 := s2.ref hI7 hg7
        have hk3 := Kd.R_grown hok2 hg7 (fun k hk e => by have := Option.some.inj e; have := s2.hn; omega)
        clear hI7 hg7 s2 hok2
        have h2 : Kd.R k101 101 w7 w.heap.size (fun q => wr.heap.size + 1 < q) (.slice none 0 0) ([] : List S101) := Kd.R_nil _ _ _ _ _
        have h3 : Kd.R k98 98 w7 w.heap.size (fun q => wr.heap.size + 1 < q) (.slice none 0 0) ([] : List S98) := Kd.R_nil _ _ _ _ _
        have h4 := hk3
        clear hk3
        have e0 : w7.cell? ⟨wr.heap.size + 1, 0, none⟩ = some (.int .i64 ((⟨3, 0, [], [], ks⟩ : S43)).f0) := Lib.cell_of_heap s3.E 0
        have e1 : w7.cell? ⟨wr.heap.size + 1, 1, none⟩ = some (.int .u32 ((⟨3, 0, [], [], ks⟩ : S43)).f1) := Lib.cell_of_heap s3.E 1
        have e2 : w7.cell? ⟨wr.heap.size + 1, 2, none⟩ = some (.slice none 0 0) := Lib.cell_of_heap s3.E 2
        have e3 : w7.cell? ⟨wr.heap.size + 1, 3, none⟩ = some (.slice none 0 0) := Lib.cell_of_heap s3.E 3
        have e4 : w7.cell? ⟨wr.heap.size + 1, 4, none⟩ = some (.slice Ak ks.length ck) := Lib.cell_of_heap s3.E 4
        have z9 : w7.cell? ⟨wr.heap.size, 9, none⟩ = some (.int .i64 xa) := Lib.cell_of_heap s3.X 9
        have z10 : w7.cell? ⟨wr.heap.size, 10, none⟩ = some (.int .i64 xh) := Lib.cell_of_heap s3.X 10
        by_cases ht : (k : Int) = a1
        · have t1 : ((k : Int) == a1) = true := beq_iff_eq.2 ht
          have Ht := Lib.hid ht
          clear ht
          go_wp2_with fail
          refine (turned_all ((⟨3, 0, [], [], ks⟩ : S43)) (.slice none 0 0) (.slice none 0 0) (.slice Ak ks.length ck) xa xh w7 w.heap.size (fun q => wr.heap.size + 1 < q) h2 h3 h4 s3.B.size (fun q hq => by have := s3.lt; omega) hOk.q0 hOk.q1 hOk.l3 hOk.s3 hOk.u3 (hT.below s3.B)).mono ?_
          rintro e w8 ⟨v3', rfl, hR8, ⟨hf2, hf4⟩, hb8⟩
          have s4 := s3.below hb8
          replace h2 := Kd.R_below h2 hb8
          replace h4 := Kd.R_below h4 hb8
          replace h2 : Kd.R k101 101 w8 w.heap.size (fun q => wr.heap.size + 1 < q) (.slice none 0 0) (turnE ((⟨3, 0, [], [], ks⟩ : S43)) xa xh).f2 := by rw [hf2]; exact h2
          replace h4 : Kd.R Kd.string 9 w8 w.heap.size (fun q => wr.heap.size + 1 < q) (.slice Ak ks.length ck) (turnE ((⟨3, 0, [], [], ks⟩ : S43)) xa xh).f4 := by rw [hf4]; exact h4
          clear h3 e0 e1 e2 e3 e4 z9 z10 hf2 hf4 hb8 s3 hOk t1
          have Hi : Hid ((if (k : Int) = a1 then turnE ((⟨3, 0, [], [], ks⟩ : S43)) xa xh else ((⟨3, 0, [], [], ks⟩ : S43))) = turnE ((⟨3, 0, [], [], ks⟩ : S43)) xa xh) := Lib.hid (if_pos Ht.out)
          have hqs0 := Hqs.out
          rw [Hi.out] at hqs0
          clear Hqs Hi
          have Hqs := Lib.hid hqs0
          clear hqs0
          generalize turnE ((⟨3, 0, [], [], ks⟩ : S43)) xa xh = ev at h2 h4 hR8 Hqs ⊢
          obtain ⟨Av3, cv3, ev3⟩ := Kd.R_slice hR8
          subst ev3
          have e0 : w8.cell? ⟨wr.heap.size + 1, 0, none⟩ = some _ := Lib.cell_of_heap s4.E 0
          have e1 : w8.cell? ⟨wr.heap.size + 1, 1, none⟩ = some _ := Lib.cell_of_heap s4.E 1
          have e2 : w8.cell? ⟨wr.heap.size + 1, 2, none⟩ = some _ := Lib.cell_of_heap s4.E 2
          have e3 : w8.cell? ⟨wr.heap.size + 1, 3, none⟩ = some _ := Lib.cell_of_heap s4.E 3
          have e4 : w8.cell? ⟨wr.heap.size + 1, 4, none⟩ = some _ := Lib.cell_of_heap s4.E 4
          have f0 : w8.frozen? ⟨wr.heap.size + 1, 0, none⟩ = false := Lib.frozen_of_heap s4.E 0
          have f1 : w8.frozen? ⟨wr.heap.size + 1, 1, none⟩ = false := Lib.frozen_of_heap s4.E 1
          have f2 : w8.frozen? ⟨wr.heap.size + 1, 2, none⟩ = false := Lib.frozen_of_heap s4.E 2
          have f3 : w8.frozen? ⟨wr.heap.size + 1, 3, none⟩ = false := Lib.frozen_of_heap s4.E 3
          have f4 : w8.frozen? ⟨wr.heap.size + 1, 4, none⟩ = false := Lib.frozen_of_heap s4.E 4
          have s5 := s4.put (.int .i64 ev.f0) (.int .u32 ev.f1) (.slice none 0 0) (.slice Av3 ev.f3.length cv3) (.slice Ak ks.length ck)
          have hg5 := grown5 w8 (wr.heap.size + 1) (.int .i64 ev.f0) (.int .u32 ev.f1) (.slice none 0 0) (.slice Av3 ev.f3.length cv3) (.slice Ak ks.length ck)
          replace h2 := Kd.R_grown h2 hg5 (fun k hk e => by have := Option.some.inj e; omega)
          have h3 := Kd.R_grown hR8 hg5 (fun k hk e => by have := Option.some.inj e; omega)
          replace h4 := Kd.R_grown h4 hg5 (fun k hk e => by have := Option.some.inj e; omega)
          clear s4 hg5 hR8
          go_wp2_with (at_builtin; refine Kd.R_append k43 (w0 := w) w.heap.size rfl (.tmp 80) (.tmp 82) 47 43 (.agg #[(.int .i64 0), (.int .u32 0), (.slice none 0 0), (.slice none 0 0), (.slice none 0 0)]) 88 rfl Tryd.underlying47 info43 rfl (by decide) (by decide) u6 out ev [.int .i64 (ev).f0, .int .u32 (ev).f1, .slice none 0 0, .slice Av3 ev.f3.length cv3, .slice Ak ks.length ck] (fun q => q ≠ w.heap.size) (fun q => wr.heap.size + 1 < q) rfl (by first | (go_simp; done) | (go_simp; rfl)) (k43_mkM _ _ _ ev h2 h3 h4) s5.apart (fun q hq => by have := s5.lt; have := s5.hn; omega) (Kd.R_mono s5.O (fun _ h => h.1)) s5.B s5.B.size ?aL ?_)
          case aL => (try rw [hol]); omega
          intro v1 w9 hR1 hb1 hg1 _
          have hI9 := RefIs.over s5.I s5.O (fun _ h => h.1) hg1
          have hqs := Hqs.out
          clear Hqs h2 h3 h4 s5
          go_wp2
          go_roundw
          case rel => exact ⟨k + 1, seq, vm', _, out ++ [ev], hlt, by omega, by simp, rfl, by simp [hol], hI9, hR1, hb1, ⟨hqs⟩⟩
          case measure => simp [intOf]; omega
        · have t1 : ((k : Int) == a1) = false := beq_eq_false_iff_ne.2 ht
          have Hi : Hid ((if (k : Int) = a1 then turnE ((⟨3, 0, [], [], ks⟩ : S43)) xa xh else ((⟨3, 0, [], [], ks⟩ : S43))) = ((⟨3, 0, [], [], ks⟩ : S43))) := Lib.hid (if_neg ht)
          clear ht z9 z10 hOk
          go_wp2_with (at_builtin; refine Kd.R_append k43 (w0 := w) w.heap.size rfl (.tmp 80) (.tmp 82) 47 43 (.agg #[(.int .i64 0), (.int .u32 0), (.slice none 0 0), (.slice none 0 0), (.slice none 0 0)]) 88 rfl Tryd.underlying47 info43 rfl (by decide) (by decide) u6 out (⟨3, 0, [], [], ks⟩ : S43) [.int .i64 ((⟨3, 0, [], [], ks⟩ : S43)).f0, .int .u32 ((⟨3, 0, [], [], ks⟩ : S43)).f1, .slice none 0 0, .slice none 0 0, .slice Ak ks.length ck] (fun q => q ≠ w.heap.size) (fun q => wr.heap.size + 1 < q) rfl (by first | (go_simp; done) | (go_simp; rfl)) (k43_mkM _ _ _ (⟨3, 0, [], [], ks⟩ : S43) h2 h3 h4) s3.apart (fun q hq => by have := s3.lt; have := s3.hn; omega) (Kd.R_mono s3.O (fun _ h => h.1)) s3.B s3.B.size ?aL ?_)
          case aL => (try rw [hol]); omega
          intro v1 w9 hR1 hb1 hg1 _
          have hI9 := RefIs.over s3.I s3.O (fun _ h => h.1) hg1
          have hqs := Hqs.out
          rw [Hi.out] at hqs
          clear Hqs h2 h3 h4 s3
          go_wp2
          go_roundw
          case rel => exact ⟨k + 1, seq, vm', _, out ++ [(⟨3, 0, [], [], ks⟩ : S43)], hlt, by omega, by simp, rfl, by simp [hol], hI9, hR1, hb1, ⟨hqs⟩⟩
          case measure => simp [intOf]; omega
      · by_cases q46 : q = 4 ∨ q = 5 ∨ q = 6
        · rw [if_neg q3, if_pos q46] at hrow
          obtain ⟨ks, hks, hrow⟩ := Option.bind_eq_some_iff.1 hrow
          simp only [Option.some.injEq, Prod.mk.injEq] at hrow
          obtain ⟨rfl, rfl, rfl⟩ := hrow
          have Hks := Lib.hid hks
          clear hks q3
          have hOk := okRow_is Hokr.out
          have z3 : w4.cell? ⟨wr.heap.size, 3, none⟩ = some (.slice A3 xk.length c3) := Lib.cell_of_heap s0.X 3
          rcases q46 with rfl | rfl | rfl
          all_goals (
            go_wp2_with fail
            refine (cachepothand_Keys.calls 1000 A3 c3 xk 5 ks _ (Kd.C_below g3 s0.B) HL3.out Hks.out (hT.below s0.B)).mono ?_
            rintro e w5 ⟨vk, rfl, hRk, hb5⟩
            have s1 := s0.below hb5
            obtain ⟨Ak, ck, ek⟩ := Kd.R_slice hRk
            subst ek
            obtain ⟨Av, cv, ev⟩ := Kd.R_slice s1.I.row
            subst ev
            clear z3 hb5 s0
            go_wp2_with fail
            refine (ref_Get w.heap.size Av cv L Ak ck ks w5 s1.I.cell0 (Kd.R_reads' s1.I.row).2.2 (Kd.R_reads' hRk).2.2 (by have := hOk.Lw; omega) (by have := hOk.l3; simp only [refGetF, List.length_map] at this; exact this)).mono ?_
            rintro e w6 ⟨vg, rfl, hRg, hb6⟩
            have s2 := s1.below hb6
            have h3 := Kd.R_lower (Kd.R_mono (Kd.R_bound hRg) (fun q hq => (by have := s1.lt; have := hq.2.1; omega : wr.heap.size + 1 < q))) s1.B.size
            clear hRg hRk hb6 s1
            obtain ⟨Ag, cg, eg⟩ := Kd.R_slice h3
            subst eg
            have e0 : w6.cell? ⟨wr.heap.size + 1, 0, none⟩ = some (.int .i64 0) := Lib.cell_of_heap s2.E 0
            have e1 : w6.cell? ⟨wr.heap.size + 1, 1, none⟩ = some (.int .u32 0) := Lib.cell_of_heap s2.E 1
            have e2 : w6.cell? ⟨wr.heap.size + 1, 2, none⟩ = some (.slice none 0 0) := Lib.cell_of_heap s2.E 2
            have e3 : w6.cell? ⟨wr.heap.size + 1, 3, none⟩ = some (.slice none 0 0) := Lib.cell_of_heap s2.E 3
            have e4 : w6.cell? ⟨wr.heap.size + 1, 4, none⟩ = some (.slice none 0 0) := Lib.cell_of_heap s2.E 4
            have f0 : w6.frozen? ⟨wr.heap.size + 1, 0, none⟩ = false := Lib.frozen_of_heap s2.E 0
            have f1 : w6.frozen? ⟨wr.heap.size + 1, 1, none⟩ = false := Lib.frozen_of_heap s2.E 1
            have f2 : w6.frozen? ⟨wr.heap.size + 1, 2, none⟩ = false := Lib.frozen_of_heap s2.E 2
            have f3 : w6.frozen? ⟨wr.heap.size + 1, 3, none⟩ = false := Lib.frozen_of_heap s2.E 3
            have f4 : w6.frozen? ⟨wr.heap.size + 1, 4, none⟩ = false := Lib.frozen_of_heap s2.E 4
            go_upto_region 22 with (fail)
            have s3 := s2.put (.int .i64 2) (.int .u32 0) (.slice none 0 0) (.slice Ag (refGetF L ks).length cg) (.slice none 0 0)
            have hg5 := grown5 w6 (wr.heap.size + 1) (.int .i64 2) (.int .u32 0) (.slice none 0 0) (.slice Ag (refGetF L ks).length cg) (.slice none 0 0)
            replace h3 := Kd.R_grown h3 hg5 (fun k hk e => by have := Option.some.inj e; omega)
            clear hg5 s2 e0 e1 e2 e3 e4 f0 f1 f2 f3 f4
            generalize (((((w6.setCell ⟨wr.heap.size + 1, 0, none⟩ (.int .i64 2)).setCell ⟨wr.heap.size + 1, 1, none⟩ (.int .u32 0)).setCell ⟨wr.heap.size + 1, 2, none⟩ (.slice none 0 0)).setCell ⟨wr.heap.size + 1, 3, none⟩ (.slice Ag (refGetF L ks).length cg)).setCell ⟨wr.heap.size + 1, 4, none⟩ (.slice none 0 0)) = w7 at s3 h3 ⊢
            have h2 : Kd.R k101 101 w7 w.heap.size (fun q => wr.heap.size + 1 < q) (.slice none 0 0) ([] : List S101) := Kd.R_nil _ _ _ _ _
            have h4 : Kd.R Kd.string 9 w7 w.heap.size (fun q => wr.heap.size + 1 < q) (.slice none 0 0) ([] : List ByteArray) := Kd.R_nil _ _ _ _ _
            have e0 : w7.cell? ⟨wr.heap.size + 1, 0, none⟩ = some (.int .i64 ((⟨2, 0, [], refGetF L ks, []⟩ : S43)).f0) := Lib.cell_of_heap s3.E 0
            have e1 : w7.cell? ⟨wr.heap.size + 1, 1, none⟩ = some (.int .u32 ((⟨2, 0, [], refGetF L ks, []⟩ : S43)).f1) := Lib.cell_of_heap s3.E 1
            have e2 : w7.cell? ⟨wr.heap.size + 1, 2, none⟩ = some (.slice none 0 0) := Lib.cell_of_heap s3.E 2
            have e3 : w7.cell? ⟨wr.heap.size + 1, 3, none⟩ = some (.slice Ag (refGetF L ks).length cg) := Lib.cell_of_heap s3.E 3
            have e4 : w7.cell? ⟨wr.heap.size + 1, 4, none⟩ = some (.slice none 0 0) := Lib.cell_of_heap s3.E 4
            have z9 : w7.cell? ⟨wr.heap.size, 9, none⟩ = some (.int .i64 xa) := Lib.cell_of_heap s3.X 9
            have z10 : w7.cell? ⟨wr.heap.size, 10, none⟩ = some (.int .i64 xh) := Lib.cell_of_heap s3.X 10
            by_cases ht : (k : Int) = a1
            · have t1 : ((k : Int) == a1) = true := beq_iff_eq.2 ht
              have Ht := Lib.hid ht
              clear ht
              go_wp2_with fail
              refine (turned_all ((⟨2, 0, [], refGetF L ks, []⟩ : S43)) (.slice none 0 0) (.slice Ag (refGetF L ks).length cg) (.slice none 0 0) xa xh w7 w.heap.size (fun q => wr.heap.size + 1 < q) h2 h3 h4 s3.B.size (fun q hq => by have := s3.lt; omega) hOk.q0 hOk.q1 hOk.l3 hOk.s3 hOk.u3 (hT.below s3.B)).mono ?_
              rintro e w8 ⟨v3', rfl, hR8, ⟨hf2, hf4⟩, hb8⟩
              have s4 := s3.below hb8
              replace h2 : Kd.R k101 101 w8 w.heap.size (fun q => wr.heap.size + 1 < q) (.slice none 0 0) (turnE ((⟨2, 0, [], refGetF L ks, []⟩ : S43)) xa xh).f2 := by rw [hf2]; exact Kd.R_below h2 hb8
              replace h4 : Kd.R Kd.string 9 w8 w.heap.size (fun q => wr.heap.size + 1 < q) (.slice none 0 0) (turnE ((⟨2, 0, [], refGetF L ks, []⟩ : S43)) xa xh).f4 := by rw [hf4]; exact Kd.R_below h4 hb8
              clear h3 e0 e1 e2 e3 e4 z9 z10 hf2 hf4 hb8 s3 hOk t1
              have Hi : Hid ((if (k : Int) = a1 then turnE ((⟨2, 0, [], refGetF L ks, []⟩ : S43)) xa xh else ((⟨2, 0, [], refGetF L ks, []⟩ : S43))) = turnE ((⟨2, 0, [], refGetF L ks, []⟩ : S43)) xa xh) := Lib.hid (if_pos Ht.out)
              have hqs0 := Hqs.out
              rw [Hi.out] at hqs0
              clear Hqs Hi
              have Hqs := Lib.hid hqs0
              clear hqs0
              generalize turnE ((⟨2, 0, [], refGetF L ks, []⟩ : S43)) xa xh = ev at h2 h4 hR8 Hqs ⊢
              obtain ⟨Av3, cv3, ev3⟩ := Kd.R_slice hR8
              subst ev3
              have e0 : w8.cell? ⟨wr.heap.size + 1, 0, none⟩ = some _ := Lib.cell_of_heap s4.E 0
              have e1 : w8.cell? ⟨wr.heap.size + 1, 1, none⟩ = some _ := Lib.cell_of_heap s4.E 1
              have e2 : w8.cell? ⟨wr.heap.size + 1, 2, none⟩ = some _ := Lib.cell_of_heap s4.E 2
              have e3 : w8.cell? ⟨wr.heap.size + 1, 3, none⟩ = some _ := Lib.cell_of_heap s4.E 3
              have e4 : w8.cell? ⟨wr.heap.size + 1, 4, none⟩ = some _ := Lib.cell_of_heap s4.E 4
              have f0 : w8.frozen? ⟨wr.heap.size + 1, 0, none⟩ = false := Lib.frozen_of_heap s4.E 0
              have f1 : w8.frozen? ⟨wr.heap.size + 1, 1, none⟩ = false := Lib.frozen_of_heap s4.E 1
              have f2 : w8.frozen? ⟨wr.heap.size + 1, 2, none⟩ = false := Lib.frozen_of_heap s4.E 2
              have f3 : w8.frozen? ⟨wr.heap.size + 1, 3, none⟩ = false := Lib.frozen_of_heap s4.E 3
              have f4 : w8.frozen? ⟨wr.heap.size + 1, 4, none⟩ = false := Lib.frozen_of_heap s4.E 4
              have s5 := s4.put (.int .i64 ev.f0) (.int .u32 ev.f1) (.slice none 0 0) (.slice Av3 ev.f3.length cv3) (.slice none 0 0)
              have hg5 := grown5 w8 (wr.heap.size + 1) (.int .i64 ev.f0) (.int .u32 ev.f1) (.slice none 0 0) (.slice Av3 ev.f3.length cv3) (.slice none 0 0)
              replace h2 := Kd.R_grown h2 hg5 (fun k hk e => by have := Option.some.inj e; omega)
              have h3 := Kd.R_grown hR8 hg5 (fun k hk e => by have := Option.some.inj e; omega)
              replace h4 := Kd.R_grown h4 hg5 (fun k hk e => by have := Option.some.inj e; omega)
              clear s4 hg5 hR8
              go_wp2_with (at_builtin; refine Kd.R_append k43 (w0 := w) w.heap.size rfl (.tmp 80) (.tmp 82) 47 43 (.agg #[(.int .i64 0), (.int .u32 0), (.slice none 0 0), (.slice none 0 0), (.slice none 0 0)]) 88 rfl Tryd.underlying47 info43 rfl (by decide) (by decide) u6 out (ev) [.int .i64 (ev).f0, .int .u32 (ev).f1, .slice none 0 0, .slice Av3 ev.f3.length cv3, .slice none 0 0] (fun q => q ≠ w.heap.size) (fun q => wr.heap.size + 1 < q) rfl (by first | (go_simp; done) | (go_simp; rfl)) (k43_mkM _ _ _ (ev) h2 h3 h4) s5.apart (fun q hq => by have := s5.lt; have := s5.hn; omega) (Kd.R_mono s5.O (fun _ h => h.1)) s5.B s5.B.size ?aL ?_)
              case aL => (try rw [hol]); omega
              intro v1 w9 hR1 hb1 hg1 _
              have hI9 := RefIs.over s5.I s5.O (fun _ h => h.1) hg1
              have hqs := Hqs.out
              clear Hqs h2 h3 h4 s5
              go_wp2
              go_roundw
              case rel => exact ⟨k + 1, seq, _, _, out ++ [ev], hlt, by omega, by simp, rfl, by simp [hol], hI9, hR1, hb1, ⟨hqs⟩⟩
              case measure => simp [intOf]; omega
            · have t1 : ((k : Int) == a1) = false := beq_eq_false_iff_ne.2 ht
              have Hi : Hid ((if (k : Int) = a1 then turnE ((⟨2, 0, [], refGetF L ks, []⟩ : S43)) xa xh else ((⟨2, 0, [], refGetF L ks, []⟩ : S43))) = ((⟨2, 0, [], refGetF L ks, []⟩ : S43))) := Lib.hid (if_neg ht)
              clear ht z9 z10 hOk
              go_wp2_with (at_builtin; refine Kd.R_append k43 (w0 := w) w.heap.size rfl (.tmp 80) (.tmp 82) 47 43 (.agg #[(.int .i64 0), (.int .u32 0), (.slice none 0 0), (.slice none 0 0), (.slice none 0 0)]) 88 rfl Tryd.underlying47 info43 rfl (by decide) (by decide) u6 out ((⟨2, 0, [], refGetF L ks, []⟩ : S43)) [.int .i64 ((⟨2, 0, [], refGetF L ks, []⟩ : S43)).f0, .int .u32 ((⟨2, 0, [], refGetF L ks, []⟩ : S43)).f1, .slice none 0 0, .slice Ag (refGetF L ks).length cg, .slice none 0 0] (fun q => q ≠ w.heap.size) (fun q => wr.heap.size + 1 < q) rfl (by first | (go_simp; done) | (go_simp; rfl)) (k43_mkM _ _ _ ((⟨2, 0, [], refGetF L ks, []⟩ : S43)) h2 h3 h4) s3.apart (fun q hq => by have := s3.lt; have := s3.hn; omega) (Kd.R_mono s3.O (fun _ h => h.1)) s3.B s3.B.size ?aL ?_)
              case aL => (try rw [hol]); omega
              intro v1 w9 hR1 hb1 hg1 _
              have hI9 := RefIs.over s3.I s3.O (fun _ h => h.1) hg1
              have hqs := Hqs.out
              rw [Hi.out] at hqs
              clear Hqs h2 h3 h4 s3
              go_wp2
              go_roundw
              case rel => exact ⟨k + 1, seq, _, _, out ++ [(⟨2, 0, [], refGetF L ks, []⟩ : S43)], hlt, by omega, by simp, rfl, by simp [hol], hI9, hR1, hb1, ⟨hqs⟩⟩
              case measure => simp [intOf]; omega)
        · by_cases q7 : q = 7
          · subst q7
            rw [if_neg q3, if_neg q46, if_pos rfl] at hrow
            obtain ⟨⟨r1, r2, r3, r4, r5⟩, hks, hrow⟩ := Option.bind_eq_some_iff.1 hrow
            simp only [Option.some.injEq, Prod.mk.injEq] at hrow
            obtain ⟨rfl, rfl, rfl⟩ := hrow
            have Hks := Lib.hid hks
            clear hks q3 q46
            have hOk := okRow_is Hokr.out
            have z4 : w4.cell? ⟨wr.heap.size, 4, none⟩ = some (.int .i64 y0) := Lib.cell_of_heap s0.X 4
            have z5 : w4.cell? ⟨wr.heap.size, 5, none⟩ = some (.int .u32 y1) := Lib.cell_of_heap s0.X 5
            have z6 : w4.cell? ⟨wr.heap.size, 6, none⟩ = some (.slice A6 y2.length c6) := Lib.cell_of_heap s0.X 6
            have z7 : w4.cell? ⟨wr.heap.size, 7, none⟩ = some (.slice A7 y3.length c7) := Lib.cell_of_heap s0.X 7
            have z8 : w4.cell? ⟨wr.heap.size, 8, none⟩ = some (.slice A8 y4.length c8) := Lib.cell_of_heap s0.X 8
            go_wp2_with fail
            refine (cachepotlaw21_short.calls 1000 y0 y1 A6 c6 y2 A7 c7 y3 A8 c8 y4 r1 r2 r3 r4 r5 _ (Kd.C_below g6 s0.B) HL6.out (Kd.C_below g7 s0.B) HL7.out (Kd.C_below g8 s0.B) HL8.out Hks.out).mono ?_
            rintro e w6 ⟨v2, v3, v4, rfl, hR2, hR3, hR4, hb6⟩
            have s2 := s0.below hb6
            have h2 := Kd.R_lower (Kd.R_mono (Kd.R_bound hR2) (fun q hq => (by have := s0.lt; have := hq.2.1; omega : wr.heap.size + 1 < q))) s0.B.size
            have h3 := Kd.R_lower (Kd.R_mono (Kd.R_bound hR3) (fun q hq => (by have := s0.lt; have := hq.2.1; omega : wr.heap.size + 1 < q))) s0.B.size
            have h4 := Kd.R_lower (Kd.R_mono (Kd.R_bound hR4) (fun q hq => (by have := s0.lt; have := hq.2.1; omega : wr.heap.size + 1 < q))) s0.B.size
            clear hR2 hR3 hR4 hb6 s0 z4 z5 z6 z7 z8
            obtain ⟨Ae, ce, ee⟩ := Kd.R_slice h2
            subst ee
            obtain ⟨Af, cf, ef⟩ := Kd.R_slice h3
            subst ef
            obtain ⟨Ag, cg, eg⟩ := Kd.R_slice h4
            subst eg
            have e0 : w6.cell? ⟨wr.heap.size + 1, 0, none⟩ = some (.int .i64 0) := Lib.cell_of_heap s2.E 0
            have e1 : w6.cell? ⟨wr.heap.size + 1, 1, none⟩ = some (.int .u32 0) := Lib.cell_of_heap s2.E 1
            have e2 : w6.cell? ⟨wr.heap.size + 1, 2, none⟩ = some (.slice none 0 0) := Lib.cell_of_heap s2.E 2
            have e3 : w6.cell? ⟨wr.heap.size + 1, 3, none⟩ = some (.slice none 0 0) := Lib.cell_of_heap s2.E 3
            have e4 : w6.cell? ⟨wr.heap.size + 1, 4, none⟩ = some (.slice none 0 0) := Lib.cell_of_heap s2.E 4
            have f0 : w6.frozen? ⟨wr.heap.size + 1, 0, none⟩ = false := Lib.frozen_of_heap s2.E 0
            have f1 : w6.frozen? ⟨wr.heap.size + 1, 1, none⟩ = false := Lib.frozen_of_heap s2.E 1
            have f2 : w6.frozen? ⟨wr.heap.size + 1, 2, none⟩ = false := Lib.frozen_of_heap s2.E 2
            have f3 : w6.frozen? ⟨wr.heap.size + 1, 3, none⟩ = false := Lib.frozen_of_heap s2.E 3
            have f4 : w6.frozen? ⟨wr.heap.size + 1, 4, none⟩ = false := Lib.frozen_of_heap s2.E 4
            go_upto_region 22 with (fail)
            have s3 := s2.put (.int .i64 r1) (.int .u32 r2) (.slice Ae r3.length ce) (.slice Af r4.length cf) (.slice Ag r5.length cg)
            have hg5 := grown5 w6 (wr.heap.size + 1) (.int .i64 r1) (.int .u32 r2) (.slice Ae r3.length ce) (.slice Af r4.length cf) (.slice Ag r5.length cg)
            replace h2 := Kd.R_grown h2 hg5 (fun k hk e => by have := Option.some.inj e; omega)
            replace h3 := Kd.R_grown h3 hg5 (fun k hk e => by have := Option.some.inj e; omega)
            replace h4 := Kd.R_grown h4 hg5 (fun k hk e => by have := Option.some.inj e; omega)
            clear hg5 s2 e0 e1 e2 e3 e4 f0 f1 f2 f3 f4
            generalize (((((w6.setCell ⟨wr.heap.size + 1, 0, none⟩ (.int .i64 r1)).setCell ⟨wr.heap.size + 1, 1, none⟩ (.int .u32 r2)).setCell ⟨wr.heap.size + 1, 2, none⟩ (.slice Ae r3.length ce)).setCell ⟨wr.heap.size + 1, 3, none⟩ (.slice Af r4.length cf)).setCell ⟨wr.heap.size + 1, 4, none⟩ (.slice Ag r5.length cg)) = w7 at s3 h2 h3 h4 ⊢
            have e0 : w7.cell? ⟨wr.heap.size + 1, 0, none⟩ = some (.int .i64 ((⟨r1, r2, r3, r4, r5⟩ : S43)).f0) := Lib.cell_of_heap s3.E 0
            have e1 : w7.cell? ⟨wr.heap.size + 1, 1, none⟩ = some (.int .u32 ((⟨r1, r2, r3, r4, r5⟩ : S43)).f1) := Lib.cell_of_heap s3.E 1
            have e2 : w7.cell? ⟨wr.heap.size + 1, 2, none⟩ = some (.slice Ae r3.length ce) := Lib.cell_of_heap s3.E 2
            have e3 : w7.cell? ⟨wr.heap.size + 1, 3, none⟩ = some (.slice Af r4.length cf) := Lib.cell_of_heap s3.E 3
            have e4 : w7.cell? ⟨wr.heap.size + 1, 4, none⟩ = some (.slice Ag r5.length cg) := Lib.cell_of_heap s3.E 4
            have z9 : w7.cell? ⟨wr.heap.size, 9, none⟩ = some (.int .i64 xa) := Lib.cell_of_heap s3.X 9
            have z10 : w7.cell? ⟨wr.heap.size, 10, none⟩ = some (.int .i64 xh) := Lib.cell_of_heap s3.X 10
            by_cases ht : (k : Int) = a1
            · have t1 : ((k : Int) == a1) = true := beq_iff_eq.2 ht
              have Ht := Lib.hid ht
              clear ht
              go_wp2_with fail
              refine (turned_all ((⟨r1, r2, r3, r4, r5⟩ : S43)) (.slice Ae r3.length ce) (.slice Af r4.length cf) (.slice Ag r5.length cg) xa xh w7 w.heap.size (fun q => wr.heap.size + 1 < q) h2 h3 h4 s3.B.size (fun q hq => by have := s3.lt; omega) hOk.q0 hOk.q1 hOk.l3 hOk.s3 hOk.u3 (hT.below s3.B)).mono ?_
              rintro e w8 ⟨v3', rfl, hR8, ⟨hf2, hf4⟩, hb8⟩
              have s4 := s3.below hb8
              replace h2 : Kd.R k101 101 w8 w.heap.size (fun q => wr.heap.size + 1 < q) (.slice Ae r3.length ce) (turnE ((⟨r1, r2, r3, r4, r5⟩ : S43)) xa xh).f2 := by rw [hf2]; exact Kd.R_below h2 hb8
              replace h4 : Kd.R Kd.string 9 w8 w.heap.size (fun q => wr.heap.size + 1 < q) (.slice Ag r5.length cg) (turnE ((⟨r1, r2, r3, r4, r5⟩ : S43)) xa xh).f4 := by rw [hf4]; exact Kd.R_below h4 hb8
              clear h3 e0 e1 e2 e3 e4 z9 z10 hf2 hf4 hb8 s3 hOk t1
              have Hi : Hid ((if (k : Int) = a1 then turnE ((⟨r1, r2, r3, r4, r5⟩ : S43)) xa xh else ((⟨r1, r2, r3, r4, r5⟩ : S43))) = turnE ((⟨r1, r2, r3, r4, r5⟩ : S43)) xa xh) := Lib.hid (if_pos Ht.out)
              have hqs0 := Hqs.out
              rw [Hi.out] at hqs0
              clear Hqs Hi
              have Hqs := Lib.hid hqs0
              clear hqs0
              generalize turnE ((⟨r1, r2, r3, r4, r5⟩ : S43)) xa xh = ev at h2 h4 hR8 Hqs ⊢
              obtain ⟨Av3, cv3, ev3⟩ := Kd.R_slice hR8
              subst ev3
              have e0 : w8.cell? ⟨wr.heap.size + 1, 0, none⟩ = some _ := Lib.cell_of_heap s4.E 0
              have e1 : w8.cell? ⟨wr.heap.size + 1, 1, none⟩ = some _ := Lib.cell_of_heap s4.E 1
              have e2 : w8.cell? ⟨wr.heap.size + 1, 2, none⟩ = some _ := Lib.cell_of_heap s4.E 2
              have e3 : w8.cell? ⟨wr.heap.size + 1, 3, none⟩ = some _ := Lib.cell_of_heap s4.E 3
              have e4 : w8.cell? ⟨wr.heap.size + 1, 4, none⟩ = some _ := Lib.cell_of_heap s4.E 4
              have f0 : w8.frozen? ⟨wr.heap.size + 1, 0, none⟩ = false := Lib.frozen_of_heap s4.E 0
              have f1 : w8.frozen? ⟨wr.heap.size + 1, 1, none⟩ = false := Lib.frozen_of_heap s4.E 1
              have f2 : w8.frozen? ⟨wr.heap.size + 1, 2, none⟩ = false := Lib.frozen_of_heap s4.E 2
              have f3 : w8.frozen? ⟨wr.heap.size + 1, 3, none⟩ = false := Lib.frozen_of_heap s4.E 3
              have f4 : w8.frozen? ⟨wr.heap.size + 1, 4, none⟩ = false := Lib.frozen_of_heap s4.E 4
              have s5 := s4.put (.int .i64 ev.f0) (.int .u32 ev.f1) (.slice Ae r3.length ce) (.slice Av3 ev.f3.length cv3) (.slice Ag r5.length cg)
              have hg5 := grown5 w8 (wr.heap.size + 1) (.int .i64 ev.f0) (.int .u32 ev.f1) (.slice Ae r3.length ce) (.slice Av3 ev.f3.length cv3) (.slice Ag r5.length cg)
              replace h2 := Kd.R_grown h2 hg5 (fun k hk e => by have := Option.some.inj e; omega)
              have h3 := Kd.R_grown hR8 hg5 (fun k hk e => by have := Option.some.inj e; omega)
              replace h4 := Kd.R_grown h4 hg5 (fun k hk e => by have := Option.some.inj e; omega)
              clear s4 hg5 hR8
              go_wp2_with (at_builtin; refine Kd.R_append k43 (w0 := w) w.heap.size rfl (.tmp 80) (.tmp 82) 47 43 (.agg #[(.int .i64 0), (.int .u32 0), (.slice none 0 0), (.slice none 0 0), (.slice none 0 0)]) 88 rfl Tryd.underlying47 info43 rfl (by decide) (by decide) u6 out (ev) [.int .i64 (ev).f0, .int .u32 (ev).f1, .slice Ae r3.length ce, .slice Av3 ev.f3.length cv3, .slice Ag r5.length cg] (fun q => q ≠ w.heap.size) (fun q => wr.heap.size + 1 < q) rfl (by first | (go_simp; done) | (go_simp; rfl)) (k43_mkM _ _ _ (ev) h2 h3 h4) s5.apart (fun q hq => by have := s5.lt; have := s5.hn; omega) (Kd.R_mono s5.O (fun _ h => h.1)) s5.B s5.B.size ?aL ?_)
              case aL => (try rw [hol]); omega
              intro v1 w9 hR1 hb1 hg1 _
              have hI9 := RefIs.over s5.I s5.O (fun _ h => h.1) hg1
              have hqs := Hqs.out
              clear Hqs h2 h3 h4 s5
              go_wp2
              go_roundw
              case rel => exact ⟨k + 1, seq, _, _, out ++ [ev], hlt, by omega, by simp, rfl, by simp [hol], hI9, hR1, hb1, ⟨hqs⟩⟩
              case measure => simp [intOf]; omega
            · have t1 : ((k : Int) == a1) = false := beq_eq_false_iff_ne.2 ht
              have Hi : Hid ((if (k : Int) = a1 then turnE ((⟨r1, r2, r3, r4, r5⟩ : S43)) xa xh else ((⟨r1, r2, r3, r4, r5⟩ : S43))) = ((⟨r1, r2, r3, r4, r5⟩ : S43))) := Lib.hid (if_neg ht)
              clear ht z9 z10 hOk
              go_wp2_with (at_builtin; refine Kd.R_append k43 (w0 := w) w.heap.size rfl (.tmp 80) (.tmp 82) 47 43 (.agg #[(.int .i64 0), (.int .u32 0), (.slice none 0 0), (.slice none 0 0), (.slice none 0 0)]) 88 rfl Tryd.underlying47 info43 rfl (by decide) (by decide) u6 out ((⟨r1, r2, r3, r4, r5⟩ : S43)) [.int .i64 ((⟨r1, r2, r3, r4, r5⟩ : S43)).f0, .int .u32 ((⟨r1, r2, r3, r4, r5⟩ : S43)).f1, .slice Ae r3.length ce, .slice Af r4.length cf, .slice Ag r5.length cg] (fun q => q ≠ w.heap.size) (fun q => wr.heap.size + 1 < q) rfl (by first | (go_simp; done) | (go_simp; rfl)) (k43_mkM _ _ _ ((⟨r1, r2, r3, r4, r5⟩ : S43)) h2 h3 h4) s3.apart (fun q hq => by have := s3.lt; have := s3.hn; omega) (Kd.R_mono s3.O (fun _ h => h.1)) s3.B s3.B.size ?aL ?_)
              case aL => (try rw [hol]); omega
              intro v1 w9 hR1 hb1 hg1 _
              have hI9 := RefIs.over s3.I s3.O (fun _ h => h.1) hg1
              have hqs := Hqs.out
              rw [Hi.out] at hqs
              clear Hqs h2 h3 h4 s3
              go_wp2
              go_roundw
              case rel => exact ⟨k + 1, seq, _, _, out ++ [(⟨r1, r2, r3, r4, r5⟩ : S43)], hlt, by omega, by simp, rfl, by simp [hol], hI9, hR1, hb1, ⟨hqs⟩⟩
              case measure => simp [intOf]; omega
          · rw [if_neg q3, if_neg q46, if_neg q7] at hrow
            obtain ⟨ws, hks, hrow⟩ := Option.bind_eq_some_iff.1 hrow
            simp only [Option.some.injEq, Prod.mk.injEq] at hrow
            obtain ⟨rfl, rfl, rfl⟩ := hrow
            have Hks := Lib.hid hks
            have hOk := okRow_is Hokr.out
            have b3 : (q == 3) = false := beq_eq_false_iff_ne.2 q3
            have b4 : (q == 4) = false := beq_eq_false_iff_ne.2 (fun e => q46 (.inl e))
            have b5 : (q == 5) = false := beq_eq_false_iff_ne.2 (fun e => q46 (.inr (.inl e)))
            have b6 : (q == 6) = false := beq_eq_false_iff_ne.2 (fun e => q46 (.inr (.inr e)))
            have b7 : (q == 7) = false := beq_eq_false_iff_ne.2 q7
            clear hks q3 q46 q7
            have z1 : w4.cell? ⟨wr.heap.size, 1, none⟩ = some (.int .u32 xs) := Lib.cell_of_heap s0.X 1
            have z2 : w4.cell? ⟨wr.heap.size, 2, none⟩ = some (.slice A2 xl.length c2) := Lib.cell_of_heap s0.X 2
            go_wp2_with fail
            refine (cachepothand_Writes.calls 1000 A2 c2 xl 5 ws _ (Kd.C_below g2 s0.B) HL2.out Hks.out (hT.below s0.B)).mono ?_
            rintro e w5 ⟨vw, rfl, hRw, hb5⟩
            have s1 := s0.below hb5
            have h2 := Kd.R_lower (Kd.R_mono (Kd.R_bound hRw) (fun q hq => (by have := s0.lt; have := hq.2.1; omega : wr.heap.size + 1 < q))) s0.B.size
            clear hRw hb5 s0 z1 z2
            obtain ⟨Aw, cw, ew⟩ := Kd.R_slice h2
            subst ew
            have e0 : w5.cell? ⟨wr.heap.size + 1, 0, none⟩ = some (.int .i64 0) := Lib.cell_of_heap s1.E 0
            have e1 : w5.cell? ⟨wr.heap.size + 1, 1, none⟩ = some (.int .u32 0) := Lib.cell_of_heap s1.E 1
            have e2 : w5.cell? ⟨wr.heap.size + 1, 2, none⟩ = some (.slice none 0 0) := Lib.cell_of_heap s1.E 2
            have e3 : w5.cell? ⟨wr.heap.size + 1, 3, none⟩ = some (.slice none 0 0) := Lib.cell_of_heap s1.E 3
            have e4 : w5.cell? ⟨wr.heap.size + 1, 4, none⟩ = some (.slice none 0 0) := Lib.cell_of_heap s1.E 4
            have f0 : w5.frozen? ⟨wr.heap.size + 1, 0, none⟩ = false := Lib.frozen_of_heap s1.E 0
            have f1 : w5.frozen? ⟨wr.heap.size + 1, 1, none⟩ = false := Lib.frozen_of_heap s1.E 1
            have f2 : w5.frozen? ⟨wr.heap.size + 1, 2, none⟩ = false := Lib.frozen_of_heap s1.E 2
            have f3 : w5.frozen? ⟨wr.heap.size + 1, 3, none⟩ = false := Lib.frozen_of_heap s1.E 3
            have f4 : w5.frozen? ⟨wr.heap.size + 1, 4, none⟩ = false := Lib.frozen_of_heap s1.E 4
            rw [show (seq + (1 + Int.tmod xs 3) % 4294967296) % 4294967296 = nextSeq seq xs from rfl]
            generalize nextSeq seq xs = ns at hOk Hqs Hokr ⊢
            go_wp2_with fail
            have s2 := s1.put (.int .i64 1) (.int .u32 ns) (.slice Aw ws.length cw) (.slice none 0 0) (.slice none 0 0)
            have hg5 := grown5 w5 (wr.heap.size + 1) (.int .i64 1) (.int .u32 ns) (.slice Aw ws.length cw) (.slice none 0 0) (.slice none 0 0)
            replace h2 := Kd.R_grown h2 hg5 (fun k hk e => by have := Option.some.inj e; omega)
            clear hg5 s1 e0 e1 e2 e3 e4 f0 f1 f2 f3 f4
            generalize (((((w5.setCell ⟨wr.heap.size + 1, 0, none⟩ (.int .i64 1)).setCell ⟨wr.heap.size + 1, 1, none⟩ (.int .u32 ns)).setCell ⟨wr.heap.size + 1, 2, none⟩ (.slice Aw ws.length cw)).setCell ⟨wr.heap.size + 1, 3, none⟩ (.slice none 0 0)).setCell ⟨wr.heap.size + 1, 4, none⟩ (.slice none 0 0)) = W6 at s2 h2 ⊢
            refine (ref_Commit w.heap.size w.heap.size vm L ns Aw cw ws W6 s2.I (fun W' hg => (Kd.R_reads' (Kd.R_grown h2 hg (fun k hk e => by have := Option.some.inj e; have := s2.hn; omega))).2.2) hOk.Lw hOk.sL hOk.sw).mono ?_
            rintro e w7 ⟨rfl, vm', hI7, hg7⟩
            have s3 := s2.ref hI7 hg7
            replace h2 := Kd.R_grown h2 hg7 (fun k hk e => by have := Option.some.inj e; have := s2.hn; omega)
            clear hI7 hg7 s2
            have h3 : Kd.R k98 98 w7 w.heap.size (fun q => wr.heap.size + 1 < q) (.slice none 0 0) ([] : List S98) := Kd.R_nil _ _ _ _ _
            have h4 : Kd.R Kd.string 9 w7 w.heap.size (fun q => wr.heap.size + 1 < q) (.slice none 0 0) ([] : List ByteArray) := Kd.R_nil _ _ _ _ _
            have e0 : w7.cell? ⟨wr.heap.size + 1, 0, none⟩ = some (.int .i64 ((⟨1, ns, ws, [], []⟩ : S43)).f0) := Lib.cell_of_heap s3.E 0
            have e1 : w7.cell? ⟨wr.heap.size + 1, 1, none⟩ = some (.int .u32 ((⟨1, ns, ws, [], []⟩ : S43)).f1) := Lib.cell_of_heap s3.E 1
            have e2 : w7.cell? ⟨wr.heap.size + 1, 2, none⟩ = some (.slice Aw ws.length cw) := Lib.cell_of_heap s3.E 2
            have e3 : w7.cell? ⟨wr.heap.size + 1, 3, none⟩ = some (.slice none 0 0) := Lib.cell_of_heap s3.E 3
            have e4 : w7.cell? ⟨wr.heap.size + 1, 4, none⟩ = some (.slice none 0 0) := Lib.cell_of_heap s3.E 4
            have z9 : w7.cell? ⟨wr.heap.size, 9, none⟩ = some (.int .i64 xa) := Lib.cell_of_heap s3.X 9
            have z10 : w7.cell? ⟨wr.heap.size, 10, none⟩ = some (.int .i64 xh) := Lib.cell_of_heap s3.X 10
            by_cases ht : (k : Int) = a1
            · have t1 : ((k : Int) == a1) = true := beq_iff_eq.2 ht
              have Ht := Lib.hid ht
              clear ht
              go_wp2_with fail
              refine (turned_all ((⟨1, ns, ws, [], []⟩ : S43)) (.slice Aw ws.length cw) (.slice none 0 0) (.slice none 0 0) xa xh w7 w.heap.size (fun q => wr.heap.size + 1 < q) h2 h3 h4 s3.B.size (fun q hq => by have := s3.lt; omega) hOk.q0 hOk.q1 hOk.l3 hOk.s3 hOk.u3 (hT.below s3.B)).mono ?_
              rintro e w8 ⟨v3', rfl, hR8, ⟨hf2, hf4⟩, hb8⟩
              have s4 := s3.below hb8
              replace h2 : Kd.R k101 101 w8 w.heap.size (fun q => wr.heap.size + 1 < q) (.slice Aw ws.length cw) (turnE ((⟨1, ns, ws, [], []⟩ : S43)) xa xh).f2 := by rw [hf2]; exact Kd.R_below h2 hb8
              replace h4 : Kd.R Kd.string 9 w8 w.heap.size (fun q => wr.heap.size + 1 < q) (.slice none 0 0) (turnE ((⟨1, ns, ws, [], []⟩ : S43)) xa xh).f4 := by rw [hf4]; exact Kd.R_below h4 hb8
              clear h3 e0 e1 e2 e3 e4 z9 z10 hf2 hf4 hb8 s3 hOk t1
              have Hi : Hid ((if (k : Int) = a1 then turnE ((⟨1, ns, ws, [], []⟩ : S43)) xa xh else ((⟨1, ns, ws, [], []⟩ : S43))) = turnE ((⟨1, ns, ws, [], []⟩ : S43)) xa xh) := Lib.hid (if_pos Ht.out)
              have hqs0 := Hqs.out
              rw [Hi.out] at hqs0
              clear Hqs Hi
              have Hqs := Lib.hid hqs0
              clear hqs0
              generalize turnE ((⟨1, ns, ws, [], []⟩ : S43)) xa xh = ev at h2 h4 hR8 Hqs ⊢
              obtain ⟨Av3, cv3, ev3⟩ := Kd.R_slice hR8
              subst ev3
              have e0 : w8.cell? ⟨wr.heap.size + 1, 0, none⟩ = some _ := Lib.cell_of_heap s4.E 0
              have e1 : w8.cell? ⟨wr.heap.size + 1, 1, none⟩ = some _ := Lib.cell_of_heap s4.E 1
              have e2 : w8.cell? ⟨wr.heap.size + 1, 2, none⟩ = some _ := Lib.cell_of_heap s4.E 2
              have e3 : w8.cell? ⟨wr.heap.size + 1, 3, none⟩ = some _ := Lib.cell_of_heap s4.E 3
              have e4 : w8.cell? ⟨wr.heap.size + 1, 4, none⟩ = some _ := Lib.cell_of_heap s4.E 4
              have f0 : w8.frozen? ⟨wr.heap.size + 1, 0, none⟩ = false := Lib.frozen_of_heap s4.E 0
              have f1 : w8.frozen? ⟨wr.heap.size + 1, 1, none⟩ = false := Lib.frozen_of_heap s4.E 1
              have f2 : w8.frozen? ⟨wr.heap.size + 1, 2, none⟩ = false := Lib.frozen_of_heap s4.E 2
              have f3 : w8.frozen? ⟨wr.heap.size + 1, 3, none⟩ = false := Lib.frozen_of_heap s4.E 3
              have f4 : w8.frozen? ⟨wr.heap.size + 1, 4, none⟩ = false := Lib.frozen_of_heap s4.E 4
              have s5 := s4.put (.int .i64 ev.f0) (.int .u32 ev.f1) (.slice Aw ws.length cw) (.slice Av3 ev.f3.length cv3) (.slice none 0 0)
              have hg5 := grown5 w8 (wr.heap.size + 1) (.int .i64 ev.f0) (.int .u32 ev.f1) (.slice Aw ws.length cw) (.slice Av3 ev.f3.length cv3) (.slice none 0 0)
              replace h2 := Kd.R_grown h2 hg5 (fun k hk e => by have := Option.some.inj e; omega)
              have h3 := Kd.R_grown hR8 hg5 (fun k hk e => by have := Option.some.inj e; omega)
              replace h4 := Kd.R_grown h4 hg5 (fun k hk e => by have := Option.some.inj e; omega)
              clear s4 hg5 hR8
              go_wp2_with (at_builtin; refine Kd.R_append k43 (w0 := w) w.heap.size rfl (.tmp 80) (.tmp 82) 47 43 (.agg #[(.int .i64 0), (.int .u32 0), (.slice none 0 0), (.slice none 0 0), (.slice none 0 0)]) 88 rfl Tryd.underlying47 info43 rfl (by decide) (by decide) u6 out (ev) [.int .i64 (ev).f0, .int .u32 (ev).f1, .slice Aw ws.length cw, .slice Av3 ev.f3.length cv3, .slice none 0 0] (fun q => q ≠ w.heap.size) (fun q => wr.heap.size + 1 < q) rfl (by first | (go_simp; done) | (go_simp; rfl)) (k43_mkM _ _ _ (ev) h2 h3 h4) s5.apart (fun q hq => by have := s5.lt; have := s5.hn; omega) (Kd.R_mono s5.O (fun _ h => h.1)) s5.B s5.B.size ?aL ?_)
              case aL => (try rw [hol]); omega
              intro v1 w9 hR1 hb1 hg1 _
              have hI9 := RefIs.over s5.I s5.O (fun _ h => h.1) hg1
              have hqs := Hqs.out
              clear Hqs h2 h3 h4 s5
              go_wp2
              go_roundw
              case rel => exact ⟨k + 1, ns, _, _, out ++ [ev], hlt, by omega, by simp, rfl, by simp [hol], hI9, hR1, hb1, ⟨hqs⟩⟩
              case measure => simp [intOf]; omega
            · have t1 : ((k : Int) == a1) = false := beq_eq_false_iff_ne.2 ht
              have Hi : Hid ((if (k : Int) = a1 then turnE ((⟨1, ns, ws, [], []⟩ : S43)) xa xh else ((⟨1, ns, ws, [], []⟩ : S43))) = ((⟨1, ns, ws, [], []⟩ : S43))) := Lib.hid (if_neg ht)
              clear ht z9 z10 hOk
              go_wp2_with (at_builtin; refine Kd.R_append k43 (w0 := w) w.heap.size rfl (.tmp 80) (.tmp 82) 47 43 (.agg #[(.int .i64 0), (.int .u32 0), (.slice none 0 0), (.slice none 0 0), (.slice none 0 0)]) 88 rfl Tryd.underlying47 info43 rfl (by decide) (by decide) u6 out ((⟨1, ns, ws, [], []⟩ : S43)) [.int .i64 ((⟨1, ns, ws, [], []⟩ : S43)).f0, .int .u32 ((⟨1, ns, ws, [], []⟩ : S43)).f1, .slice Aw ws.length cw, .slice none 0 0, .slice none 0 0] (fun q => q ≠ w.heap.size) (fun q => wr.heap.size + 1 < q) rfl (by first | (go_simp; done) | (go_simp; rfl)) (k43_mkM _ _ _ ((⟨1, ns, ws, [], []⟩ : S43)) h2 h3 h4) s3.apart (fun q hq => by have := s3.lt; have := s3.hn; omega) (Kd.R_mono s3.O (fun _ h => h.1)) s3.B s3.B.size ?aL ?_)
              case aL => (try rw [hol]); omega
              intro v1 w9 hR1 hb1 hg1 _
              have hI9 := RefIs.over s3.I s3.O (fun _ h => h.1) hg1
              have hqs := Hqs.out
              rw [Hi.out] at hqs
              clear Hqs h2 h3 h4 s3
              go_wp2
              go_roundw
              case rel => exact ⟨k + 1, ns, _, _, out ++ [(⟨1, ns, ws, [], []⟩ : S43)], hlt, by omega, by simp, rfl, by simp [hol], hI9, hR1, hb1, ⟨hqs⟩⟩
              case measure => simp [intOf]; omega
    · have hqs := hq.out
      have he : out = r := by
        rcases Nat.lt_or_ge k l0.length with hlt | hge
        · have h30 : ¬ k < 30 := fun h => hgo ⟨hlt, h⟩
          rw [List.drop_eq_getElem_cons hlt, eventsG, if_neg h30] at hqs
          exact Option.some.inj hqs
        · rw [List.drop_eq_nil_of_le hge, eventsG] at hqs
          exact Option.some.inj hqs
      subst he
      clear hq hqs
      have hR2 : Kd.R k43 43 wr w.heap.size (fun _ => True) u6 out := Kd.R_mono hRo (fun _ _ => trivial)
      rcases Nat.lt_or_ge k l0.length with hlt | hge
      · have h30 : ¬ k < 30 := fun h => hgo ⟨hlt, h⟩
        obtain rfl : k = 30 := by omega
        clear hgo h30
        go_wp2
        go_ret
        exact ⟨_, rfl, hR2, hb⟩
      · obtain rfl : k = l0.length := by omega
        clear hgo hge
        go_wp2
        go_ret
        exact ⟨_, rfl, hR2, hb⟩
end Go.Proofs.YtfaelejeihmgcaaDoor.Lgx
end

section
namespace Go.Proofs.YtfaelejeihmgcaaDoor.Lgx
open Go.RowKit Go.Proofs.YtfaelejeihmgcaaDoorW.PrintWords Go.Proofs.YtfaelejeihmgcaaDoorW.PrintLast
theorem info58 : (Tryd.prog.info? 58).map (fun i => (i.zero, i.size, i.bytes)) = some (some (.agg #[(.int .i64 0), (.int .u32 0), (.slice none 0 0), (.slice none 0 0), (.int .i64 0), (.int .u32 0), (.slice none 0 0), (.slice none 0 0), (.slice none 0 0), (.int .i64 0), (.int .i64 0)]), 11, 168) := by kernel_rfl
def ownG : List S58 → Nat → List S58 → Bool → List S58 × Bool
  | [], _, own, f => (own, f)
  | x :: l, i, own, f => if i < 30 then (if pickI x.f0 8 = 7 then ownG l (i + 1) own f else ownG l (i + 1) (own ++ [x]) (f || decide (pickI x.f0 8 = 3))) else (own, f)
theorem heap139 : Kd.Heap k139 := Kd.heap_iso _ (Kd.heap_pair (Kd.heap_int _) (Kd.heap_pair Kd.heap_scalar Kd.heap_scalar))
theorem heap101 : Kd.Heap k101 := Kd.heap_iso _ (Kd.heap_pair Kd.heap_scalar (Kd.heap_pair Kd.heap_scalar Kd.heap_scalar))
theorem heap98 : Kd.Heap k98 := Kd.heap_iso _ (Kd.heap_pair Kd.heap_scalar (Kd.heap_pair Kd.heap_scalar (Kd.heap_pair Kd.heap_scalar (Kd.heap_int _))))
set_option maxHeartbeats 16000000 in
set_option maxRecDepth 100000 in
theorem LedgerRuns_walk (A0 : Option Addr) (c0 : Nat) (l0 : List S58) (w : World) (hr0 : Kd.C k58 w A0 l0.length l0) (hc0 : l0.length ≤ c0) (hT : Tabs w) (own : List S58) (fg : Bool) (x : List S43) (q : Int) (wh : Bool) (k : Nat)
    (hown : ownG l0 0 [] false = (own, fg)) (hev : cachepotlaw21_events.f own (-1) = some x) (h1 : ledger_Replay.f x = some ((x.length : Int), true)) (h3 : ledger_Rising.f k x = some ((x.length : Int), true)) (h5 : wholeF x 0 x = (q, wh)) (hx : x.length ≤ 1000) (hw : ∀ e ∈ x, e.f2.length ≤ 1000) (hw3 : ∀ e ∈ x, e.f3.length ≤ 1000)
    (hres : fg = true ∨ (fg = false ∧ wh = true ∧ q = x.length)) :
    Calls Tryd.prog 13 #[.slice A0 l0.length c0] w fun e w' => e = .returned (.bool true) ∧ Below w.heap.size w w' := by
  have Hown := Lib.hid hown
  have Hev := Lib.hid hev
  have H1 := Lib.hid h1
  have H3 := Lib.hid h3
  have H5 := Lib.hid h5
  have Hx := Lib.hid hx
  have Hw := Lib.hid hw
  have Hw3 := Lib.hid hw3
  have Hc0 := Lib.hid hc0
  have Hres := Lib.hid hres
  clear hown hev h1 h3 h5 hx hw hw3 hc0 hres
  go_enter Tryd.func13, Tryd.ntmps13
  go_wp2_with fail
  go_loopw [3, 4, 5] (fun vo vf i wr => ∃ (j : Nat) (ow : List S58) (f : Bool), j ≤ l0.length ∧ j ≤ 30 ∧ i = .int .i64 j ∧ vf = .bool f ∧ ow.length ≤ j ∧ Kd.N k58 58 wr w.heap.size (fun _ => True) vo ow ∧ Below w.heap.size w wr ∧ Aside0 (ownG (l0.drop j) j ow f = (own, fg))) (fun _ _ i _ => l0.length - (intOf i).toNat)
  case atStart => exact ⟨0, [], false, Nat.zero_le _, Nat.zero_le _, rfl, rfl, Nat.le_refl _, Kd.N_nil _ _ _ _ _, Below.refl _ _, ⟨by rw [List.drop_zero]; exact Hown.out⟩⟩
  case round =>
    clear Hown
    obtain ⟨j, ow, f, hjl, hj30, rfl, rfl, hol, hN, hb, hq⟩ := hrel
    by_cases hgo : j < l0.length ∧ j < 30
    · obtain ⟨hlt, hlt30⟩ := hgo
      obtain ⟨ad, A2, c2, A3, c3, A6, c6, A7, c7, A8, c8, e, x0, x1, x2, x3, x4, x5, x6, x7, x8, x9, x10, l2, g2, l3, g3, l6, g6, l7, g7, l8, g8⟩ := at_T58 hr0 j (by omega) (by omega)
      cases e
      rw [rd58 hlt] at x0 x1 x2 x3 x4 x5 x6 x7 x8 x9 x10 l2 g2 l3 g3 l6 g6 l7 g7 l8 g8
      have hqs := hq.out
      rw [List.drop_eq_getElem_cons hlt, ownG, if_pos hlt30] at hqs
      obtain ⟨y, hy⟩ : ∃ y, y = l0[j] := ⟨_, rfl⟩
      rw [← hy] at x0 x1 x2 x3 x4 x5 x6 x7 x8 x9 x10 l2 g2 l3 g3 l6 g6 l7 g7 l8 g8 hqs
      have Hqs := Lib.hid hqs
      clear hy hq hqs
      have hFK := k58_mkF wr (fun k => k < w.heap.size) y l2 (Kd.F_below (Kd.C_F heap139 g2) hb) l3 (Kd.F_below (Kd.C_F (Kd.heap_int _) g3) hb) l6 (Kd.F_below (Kd.C_F heap101 g6) hb) l7 (Kd.F_below (Kd.C_F heap98 g7) hb) l8 (Kd.F_below (Kd.C_F Kd.heap_scalar g8) hb)
      clear g2 g3 g6 g7 g8 l2 l3 l6 l7 l8
      obtain ⟨y0, y1, y2, y3, ⟨z0, z1, z2, z3, z4⟩, y5, y6⟩ := y
      simp only [Int.toNat_natCast] at x0 x1 x2 x3 x4 x5 x6 x7 x8 x9 x10
      replace x0 := (hb.cell (World.block_lt_of_cell? w _ x0)).trans x0
      replace x1 := (hb.cell (World.block_lt_of_cell? w _ x1)).trans x1
      replace x2 := (hb.cell (World.block_lt_of_cell? w _ x2)).trans x2
      replace x3 := (hb.cell (World.block_lt_of_cell? w _ x3)).trans x3
      replace x4 := (hb.cell (World.block_lt_of_cell? w _ x4)).trans x4
      replace x5 := (hb.cell (World.block_lt_of_cell? w _ x5)).trans x5
      replace x6 := (hb.cell (World.block_lt_of_cell? w _ x6)).trans x6
      replace x7 := (hb.cell (World.block_lt_of_cell? w _ x7)).trans x7
      replace x8 := (hb.cell (World.block_lt_of_cell? w _ x8)).trans x8
      replace x9 := (hb.cell (World.block_lt_of_cell? w _ x9)).trans x9
      replace x10 := (hb.cell (World.block_lt_of_cell? w _ x10)).trans x10
      have d1 : decide (j < l0.length) = true := decide_eq_true hlt
      have d2 : decide ((j : Int) < 30) = true := decide_eq_true (by omega)
      obtain ⟨pk, hpk⟩ : ∃ pk, pickI y0 8 = pk := ⟨_, rfl⟩
      have pks := fun W => pick_same y0 8 (by decide) (by decide) W
      rw [hpk] at pks
      have hqs2 := Hqs.out
      simp only [hpk] at hqs2
      replace Hqs := Lib.hid hqs2
      have Hol := Lib.hid hol
      clear hpk hqs2 hol
      go_wp2_with fail
      refine (pks _).mono ?_
      rintro e w6 ⟨rfl, rfl⟩
      clear pks
      by_cases h7 : pk = 7
      · subst h7
        clear x0 x1 x2 x3 x4 x5 x6 x7 x8 x9 x10 hFK
        go_wp2
        go_roundw
        case rel => exact ⟨j + 1, _, _, hlt, by omega, by simp, rfl, by have := Hol.out; omega, hN, hb, ⟨by have h := Hqs.out; rw [if_pos trivial] at h; exact h⟩⟩
        case measure => simp [intOf]; omega
      · have t1 : (pk != 7) = true := bne_iff_ne.2 h7
        have hqs3 := Hqs.out
        rw [if_neg h7] at hqs3
        replace Hqs := Lib.hid hqs3
        clear hqs3 h7
        have hlen : (ow.length + 1) * 168 ≤ 140737488355328 := by have := Hol.out; omega
        have hbs := Kd.N_base hN
        go_wp2_with (at_builtin; refine Kd.N_append k58 (w0 := w) w.heap.size rfl (.tmp 32) (.tmp 37) 46 58 (.agg #[(.int .i64 0), (.int .u32 0), (.slice none 0 0), (.slice none 0 0), (.int .i64 0), (.int .u32 0), (.slice none 0 0), (.slice none 0 0), (.slice none 0 0), (.int .i64 0), (.int .i64 0)]) 168 rfl Tryd.underlying46 info58 rfl (by decide) (by decide) u3 ow _ _ (fun _ => True) (fun k => k < w.heap.size) rfl (by first | (go_simp; done) | (go_simp; rfl)) hFK (fun q hq => ⟨trivial, fun e => by have := hbs q e.symm; omega⟩) (fun _ _ => trivial) hN hb hb.size ?aL ?_)
        case aL => exact hlen
        intro v1 w9 hN1 hb1 _ _
        clear x0 x1 x2 x3 x4 x5 x6 x7 x8 x9 x10 hFK hlen hbs hN
        by_cases h3 : pk = 3
        · subst h3
          cases f
          all_goals (
            go_wp2
            go_roundw
            case rel => exact ⟨j + 1, _, _, hlt, by omega, by simp, rfl, by rw [List.length_append]; have := Hol.out; simp; omega, hN1, hb1, ⟨by have h := Hqs.out; simpa using h⟩⟩
            case measure => simp [intOf]; omega)
        · have t3 : (pk == 3) = false := beq_eq_false_iff_ne.2 h3
          have hqs4 := Hqs.out
          rw [decide_eq_false h3, Bool.or_false] at hqs4
          replace Hqs := Lib.hid hqs4
          clear hqs4 h3
          cases f
          all_goals (
            go_wp2
            go_roundw
            case rel => exact ⟨j + 1, _, _, hlt, by omega, by simp, rfl, by rw [List.length_append]; have := Hol.out; simp; omega, hN1, hb1, ⟨Hqs.out⟩⟩
            case measure => simp [intOf]; omega)
    · have hxo : ow = own ∧ f = fg := by
        have hqs := hq.out
        by_cases hlt : j < l0.length
        · have h30 : ¬ j < 30 := fun h => hgo ⟨hlt, h⟩
          rw [List.drop_eq_getElem_cons hlt, ownG, if_neg h30] at hqs
          simpa using hqs
        · rw [List.drop_eq_nil_of_le (by omega), ownG] at hqs
          simpa using hqs
      obtain ⟨rfl, rfl⟩ := hxo
      have hex : decide (j < l0.length) = false ∨ (decide (j < l0.length) = true ∧ decide ((j : Int) < 30) = false) := by
        by_cases hlt : j < l0.length
        · exact .inr ⟨decide_eq_true hlt, decide_eq_false (by have h30 : ¬ j < 30 := fun h => hgo ⟨hlt, h⟩; omega)⟩
        · exact .inl (decide_eq_false hlt)
      clear hq hol hgo
      obtain ⟨Ao, co, evo⟩ := Kd.N_slice hN
      subst evo
      obtain ⟨_, hoc, hCo⟩ := Kd.N_reads' hN
      have Hoc := Lib.hid hoc
      clear hN hoc
      rcases hex with d1 | ⟨d1, d2⟩
      all_goals (
        go_wp2_with fail
        refine (cachepotlaw21_events.calls Ao co ow (-1) x wr hCo Hoc.out Hev.out (hT.below hb)).mono ?_
        rintro e w1 ⟨v, rfl, hR, hb1⟩
        obtain ⟨A, c, ev⟩ := Kd.R_slice hR
        subst ev
        obtain ⟨_, hxc, hC⟩ := Kd.R_reads' hR
        have Hxc := Lib.hid hxc
        clear hR hxc
        go_wp2_with fail
        refine (ledger_Replay.calls A c x (x.length : Int) true w1 hC Hxc.out H1.out).mono ?_
        rintro e w2 ⟨rfl, hb2⟩
        go_wp2_with fail
        refine (ledger_Rising.calls k A c x (x.length : Int) true w2 (Kd.C_below hC hb2) Hxc.out H3.out).mono ?_
        rintro e w3 ⟨rfl, hb3⟩
        have hb23 := below_then hb2 hb2.size hb3
        go_wp2_with fail
        refine (ledger_Whole_walk A c x q wh w3 (Kd.C_below hC hb23) Hxc.out Hx.out Hw.out Hw3.out H5.out).mono ?_
        rintro e w4 ⟨rfl, hb4⟩
        have hb24 := below_then hb23 hb23.size hb4
        go_wp2_with fail
        refine (alive_walk w4).mono ?_
        rintro e w5 ⟨rfl, hb5⟩
        have hb25 := below_then hb24 hb24.size hb5
        have hb15 := below_then hb1 hb1.size hb25
        have hbf := below_then hb hb.size hb15
        clear hb1 hb2 hb3 hb4 hb5 hb23 hb24 hb25 hb15
        have hres := Hres.out
        rcases hres with rfl | ⟨rfl, rfl, rfl⟩
        all_goals (
          go_wp2
          go_ret
          exact ⟨by simp, hbf⟩))
end Go.Proofs.YtfaelejeihmgcaaDoor.Lgx
end

section
namespace Go.Proofs.YtfaelejeihmgcaaDoor.Lgx
open Go.RowKit Go.Proofs.YtfaelejeihmgcaaDoorW.PrintWords Go.Proofs.YtfaelejeihmgcaaDoorW.PrintLast
/-- a map's answers are few, of few bytes -/
structure LB (n : Nat) (L : List S98) : Prop where
  len : L.length ≤ n
  s : ∀ y ∈ L, AnsB 60 y
theorem LB.mono {n n' : Nat} {L : List S98} (h : LB n L) (hn : n ≤ n') : LB n' L := ⟨Nat.le_trans h.len hn, h.s⟩
theorem LB.without {n : Nat} {L : List S98} (h : LB n L) (k : ByteArray) : LB n (withoutF k L) := ⟨Nat.le_trans (withoutF_len k L) h.len, fun y hy => h.s y (List.mem_filter.1 hy).1⟩
theorem LB.forget (l : List ByteArray) : ∀ {n : Nat} {L : List S98}, LB n L → LB n (forgetF l L) := by
  induction l with
  | nil => intro n L h; exact h
  | cons k l ih => intro n L h; exact ih (h.without k)
theorem LB.commit1 {n : Nat} {L : List S98} (h : LB n L) {seq : Int} (h0 : 0 ≤ seq) (h1 : seq ≤ 4294967295) {x : S101} (hx : WrB x) : LB (n + 1) (commit1 seq x L) := by
  refine ⟨Nat.le_trans (commit1_len seq x L) (by have := h.len; omega), fun y hy => ?_⟩
  unfold Lgx.commit1 at hy
  split at hy
  · exact (h.without x.f0).s y hy
  · unfold insF at hy
    rcases List.mem_append.1 hy with hy | hy
    · rcases List.mem_append.1 hy with hy | hy
      · exact (h.without x.f0).s y (List.mem_of_mem_take hy)
      · rw [List.mem_singleton.1 hy]
        exact ⟨hx.1, hx.2, h0, h1⟩
    · exact (h.without x.f0).s y (List.mem_of_mem_drop hy)
theorem LB.commit {seq : Int} (h0 : 0 ≤ seq) (h1 : seq ≤ 4294967295) (l : List S101) : ∀ {n : Nat} {L : List S98}, LB n L → (∀ x ∈ l, WrB x) → LB (n + l.length) (commitF seq l L) := by
  induction l with
  | nil => intro n L h _; exact h
  | cons x l ih =>
    intro n L h hx
    have := ih (h.commit1 h0 h1 (hx x (by simp))) (fun y hy => hx y (by simp [hy]))
    rw [List.length_cons, show n + (l.length + 1) = n + 1 + l.length by omega]
    exact this
theorem look_b (k : ByteArray) : ∀ (l : List S98) (a : S98), (∀ y ∈ l, AnsB 60 y) → AnsB 60 a → AnsB 60 (l.foldl (lookStep k) a)
  | [], _, _, ha => ha
  | y :: l, a, h, ha => by
    rw [List.foldl_cons]
    refine look_b k l _ (fun z hz => h z (by simp [hz])) ?_
    unfold lookStep
    split
    · exact h y (by simp)
    · exact ha
theorem LB.get {n : Nat} {L : List S98} (h : LB n L) {l : List ByteArray} (hl : ∀ k ∈ l, k.size ≤ 4) : ∀ y ∈ refGetF L l, AnsB 60 y := fun y hy => by
  obtain ⟨k, hk, rfl⟩ := List.mem_map.1 hy
  exact look_b k L _ h.s ⟨Nat.le_trans (hl k hk) (by decide), by simp only; decide, by simp only; decide, by simp only; decide⟩
theorem LB.short {n : Nat} {L : List S98} (h : LB n L) : Short98 L := fun y hy => Nat.le_trans (h.s y hy).1 (by decide)
theorem okRow_mk {e : S43} {L L' : List S98} (he : EvB 60 e) {n n' : Nat} (hL : LB n L) (hL' : LB n' L') (hn : n ≤ 1000) (hn' : n' ≤ 1000) : okRow e L L' = true := by
  unfold okRow
  simp only [Bool.and_eq_true, decide_eq_true_eq, List.all_eq_true]
  have := he.n2
  have := he.n3
  have := he.n4
  have := hL.len
  have := hL'.len
  exact ⟨by omega, by omega, fun y hy => Nat.le_trans (hL.s y hy).1 (by decide), fun y hy => Nat.le_trans (he.s2 y hy).1 (by decide), by omega, by omega, fun y hy => ⟨Nat.le_trans (he.s3 y hy).2.1 (by decide), (he.s3 y hy).2.2⟩, he.q0, he.q1⟩
/-- what a raw row must keep -/
def RowB (x : S58) : Prop := EvU x.f4 ∧ ∀ y ∈ x.f2, y.f2.size ≤ 140737488355328
theorem nextSeq_in (seq f1 : Int) : 0 ≤ nextSeq seq f1 ∧ nextSeq seq f1 ≤ 4294967295 := by
  unfold nextSeq
  omega
/-- what a row turns to -/
structure Row1 (x : S58) (seq : Int) (L : List S98) (n : Nat) (e : S43) (seq' : Int) (L' : List S98) : Prop where
  f : row1 x seq L = some (e, seq', L')
  ev : EvB 60 e
  q0 : 0 ≤ seq'
  q1 : seq' ≤ 4294967295
  l : LB (n + 5) L'
  ok : okRow e L L' = true
theorem row1_ok (x : S58) (hx : RowB x) (seq : Int) (h0 : 0 ≤ seq) (h1 : seq ≤ 4294967295) (L : List S98) (n : Nat) (hn : n ≤ 500) (hL : LB n L) : ∃ e seq' L', Row1 x seq L n e seq' L' := by
  by_cases c3 : pickI x.f0 8 = 3
  · obtain ⟨ks, hk, k1, k2⟩ := keys_ok x.f3 4 (by decide) 1000 (by decide)
    have he : EvB 60 ⟨3, 0, [], [], ks⟩ := ⟨by simp only; decide, by simp only; decide, by simp, fun y hy => by simp at hy, by simp, fun y hy => by simp at hy, by simp only; omega, fun y hy => Nat.le_trans (k2 y hy) (by decide)⟩
    refine ⟨⟨3, 0, [], [], ks⟩, seq, forgetF ks L, ?_, he, h0, h1, (LB.forget ks hL).mono (by omega), okRow_mk he hL ((LB.forget ks hL).mono (n' := n + 5) (by omega)) (by omega) (by omega)⟩
    unfold row1
    rw [if_pos c3, show cachepothand_Keys.f 1000 x.f3 4 = some ks from hk]
    rfl
  · by_cases c4 : pickI x.f0 8 = 4 ∨ pickI x.f0 8 = 5 ∨ pickI x.f0 8 = 6
    · obtain ⟨ks, hk, k1, k2⟩ := keys_ok x.f3 5 (by decide) 1000 (by decide)
      have he : EvB 60 ⟨2, 0, [], refGetF L ks, []⟩ := ⟨by simp only; decide, by simp only; decide, by simp, fun y hy => by simp at hy, by simp only [refGetF, List.length_map]; omega, hL.get k2, by simp, fun y hy => by simp at hy⟩
      refine ⟨⟨2, 0, [], refGetF L ks, []⟩, seq, L, ?_, he, h0, h1, hL.mono (by omega), okRow_mk he hL hL (by omega) (by omega)⟩
      unfold row1
      rw [if_neg c3, if_pos c4, show cachepothand_Keys.f 1000 x.f3 5 = some ks from hk]
      rfl
    · by_cases c7 : pickI x.f0 8 = 7
      · obtain ⟨r, hr, he⟩ := short_ev x.f4 hx.1 1000 (by decide)
        refine ⟨⟨r.1, r.2.1, r.2.2.1, r.2.2.2.1, r.2.2.2.2⟩, seq, L, ?_, he, h0, h1, hL.mono (by omega), okRow_mk he hL hL (by omega) (by omega)⟩
        unfold row1
        rw [if_neg c3, if_neg c4, if_pos c7, hr]
        rfl
      · obtain ⟨ws, hw, w1, w2⟩ := writes_ok x.f2 hx.2 1000 (by decide)
        obtain ⟨q0, q1⟩ := nextSeq_in seq x.f1
        have he : EvB 60 ⟨1, nextSeq seq x.f1, ws, [], []⟩ := ⟨q0, q1, by simp only; omega, w2, by simp, fun y hy => by simp at hy, by simp, fun y hy => by simp at hy⟩
        have hc := LB.commit q0 q1 ws hL w2
        refine ⟨⟨1, nextSeq seq x.f1, ws, [], []⟩, nextSeq seq x.f1, commitF (nextSeq seq x.f1) ws L, ?_, he, q0, q1, hc.mono (by omega), okRow_mk he hL hc (by omega) (by omega)⟩
        unfold row1
        rw [if_neg c3, if_neg c4, if_neg c7, hw]
        rfl
theorem turnA_b (l : List S98) (h : ∀ y ∈ l, AnsB 60 y) (at_ how : Int) : ∀ y ∈ turnedA l at_ how, AnsB 61 y := fun y hy => by
  unfold turnedA at hy
  have hr : AnsB 60 (rd_T98 l (pickI at_ l.length)) := by
    rcases rd98_any l (pickI at_ l.length) with h' | h'
    · exact h _ h'
    · rw [h']; exact ⟨by decide, by decide, by decide, by decide⟩
  generalize rd_T98 l (pickI at_ l.length) = z at hr hy
  rcases List.mem_or_eq_of_mem_set hy with hy | hy
  · exact (h y hy).mono (by decide)
  · rw [hy]
    unfold turn1
    split
    · exact ⟨hr.1, Nat.le_trans hr.2.1 (by decide), hr.2.2⟩
    · split
      · have h2 : (z.f2 ++ (⟨#[120]⟩ : ByteArray)).size ≤ 61 := by
          rw [ByteArray.size_append, show (⟨#[120]⟩ : ByteArray).size = 1 from rfl]
          exact Nat.add_le_add_right hr.2.1 1
        exact ⟨hr.1, h2, hr.2.2⟩
      · split
        · refine ⟨hr.1, Nat.le_trans hr.2.1 (by decide), ?_⟩
          have := hr.2.2
          generalize z.f3 = q at this
          simp only [IntKind.wrap, IntKind.signed, IntKind.bits]
          constructor <;> simp <;> omega
        · split
          · exact ⟨Nat.le_trans (name_size _) (by decide), Nat.le_trans hr.2.1 (by decide), hr.2.2⟩
          · exact ⟨hr.1, by simp only; decide, by simp only; decide, by simp only; decide⟩
theorem turn_b {e : S43} (h : EvB 60 e) (at_ how : Int) : EvB 61 (turnE e at_ how) := by
  unfold turnE
  split
  · obtain ⟨p0, p1⟩ := pickI_in at_ 3 (by decide) (by decide)
    have := h.q0
    have := h.q1
    exact ⟨by simp only; omega, by simp only; omega, h.n2, h.s2, h.n3, fun y hy => (h.s3 y hy).mono (by decide), h.n4, h.s4⟩
  · split
    · exact h.mono (by decide)
    · exact ⟨h.q0, h.q1, h.n2, h.s2, by simp only [turnedA, List.length_set]; exact h.n3, turnA_b e.f3 h.s3 at_ how, h.n4, h.s4⟩
theorem eventsG_ok (turn : Int) : ∀ (l : List S58) (i : Nat) (seq : Int) (L : List S98) (out : List S43), (∀ x ∈ l, RowB x) → i ≤ 30 → 0 ≤ seq → seq ≤ 4294967295 → LB (5 * i) L → out.length = i → (∀ e ∈ out, EvB 61 e) →
    ∃ r, eventsG l turn i seq L out = some r ∧ r.length ≤ 30 ∧ ∀ e ∈ r, EvB 61 e
  | [], i, seq, L, out, _, hi, _, _, _, ho, hs => ⟨out, rfl, by omega, hs⟩
  | x :: l, i, seq, L, out, hx, hi, h0, h1, hL, ho, hs => by
    unfold eventsG
    split
    · rename_i hlt
      obtain ⟨e, seq', L', H⟩ := row1_ok x (hx x (by simp)) seq h0 h1 L (5 * i) (by omega) hL
      rw [H.f, Option.bind_some, if_pos H.ok]
      refine eventsG_ok turn l (i + 1) seq' L' _ (fun y hy => hx y (by simp [hy])) (by omega) H.q0 H.q1 (H.l.mono (by omega)) (by rw [len_snoc, ho]) (le_snoc hs ?_)
      split
      · exact turn_b H.ev _ _
      · exact H.ev.mono (by decide)
    · exact ⟨out, rfl, by omega, hs⟩
theorem events_ok (l : List S58) (turn : Int) (hl : l.length ≤ 9223372036854775807) (hx : ∀ x ∈ l, RowB x) : ∃ r, cachepotlaw21_events.f l turn = some r ∧ r.length ≤ 30 ∧ ∀ e ∈ r, EvB 61 e := by
  unfold cachepotlaw21_events.f
  rw [if_pos hl]
  exact eventsG_ok turn l 0 0 [] [] hx (by decide) (by decide) (by decide) ⟨by simp, fun y hy => by simp at hy⟩ rfl (fun y hy => by simp at hy)
theorem EvB.okE {e : S43} {V : Nat} (h : EvB V e) : okE e = true := by
  unfold Lgx.okE small
  simp only [Bool.and_eq_true, decide_eq_true_eq, List.all_eq_true]
  have := h.n2
  have := h.n3
  have := h.n4
  exact ⟨⟨⟨⟨⟨by omega, by omega⟩, by omega⟩, fun y hy => Nat.le_trans (h.s2 y hy).1 (by decide)⟩, fun y hy => Nat.le_trans (h.s3 y hy).1 (by decide)⟩, fun y hy => Nat.le_trans (h.s4 y hy) (by decide)⟩
theorem okL_mk {l : List S43} {V : Nat} (hl : l.length ≤ 30) (h : ∀ e ∈ l, EvB V e) : okL l = true := by
  unfold okL
  simp only [Bool.and_eq_true, decide_eq_true_eq, List.all_eq_true]
  exact ⟨by omega, fun e he => (h e he).okE⟩
theorem replay_f {l : List S43} {V : Nat} (hl : l.length ≤ 30) (h : ∀ e ∈ l, EvB V e) : ledger_Replay.f l = some (replayM 0 (fun _ => Atm.nought) l) := by
  unfold ledger_Replay.f
  rw [if_pos (okL_mk hl h)]
def risingF : Nat → Int → Bool → List S43 → Int × Bool
  | i, _, _, [] => ((i : Int), true)
  | i, top, some_, e :: l => if e.f0 = 1 then (if some_ = true ∧ e.f1 ≤ top then ((i : Int), false) else risingF (i + 1) e.f1 true l) else risingF (i + 1) top some_ l
theorem rising_l0 (x : List S43) (hx : x.length ≤ 1000) : ∀ (d k i : Nat) (top : Int) (b : Bool), x.length - i = d → d < k → i ≤ x.length → ledger_Rising.l0 k x top b x (x.length : Int) (i : Int) = some (risingF i top b (x.drop i)) := by
  intro d
  induction d with
  | zero =>
    intro k i top b hd hk hi
    obtain ⟨k, rfl⟩ : ∃ m, k = m + 1 := ⟨k - 1, by omega⟩
    simp only [ledger_Rising.l0]
    rw [if_neg (by omega), List.drop_eq_nil_of_le (by omega), risingF, show x.length = i by omega]
  | succ d ih =>
    intro k i top b hd hk hi
    obtain ⟨k, rfl⟩ : ∃ m, k = m + 1 := ⟨k - 1, by omega⟩
    have h1 : i < x.length := by omega
    have e1 := fun t b' => ih k (i + 1) t b' (by omega) (by omega) (by omega)
    simp only [ledger_Rising.l0]
    rw [if_pos (by omega), if_pos (by omega), if_pos (by omega), rd43 h1, w64s _ (by omega) (by omega), List.drop_eq_getElem_cons h1, risingF]
    split
    · cases b
      · rw [if_neg (by decide), if_neg (by simp)]
        exact e1 _ _
      · rw [if_pos rfl]
        split
        · rename_i h
          rw [if_pos ⟨rfl, h⟩]
        · rename_i h
          rw [if_neg (fun h' => h h'.2)]
          exact e1 _ _
    · exact e1 _ _
theorem rising_f (x : List S43) (hx : x.length ≤ 30) (k : Nat) (hk : 100 ≤ k) : ledger_Rising.f k x = some (risingF 0 0 false x) := by
  unfold ledger_Rising.f
  exact rising_l0 x (by omega) x.length k 0 0 false (by omega) (by omega) (by omega)
end Go.Proofs.YtfaelejeihmgcaaDoor.Lgx
end

section
namespace Go.Proofs.YtfaelejeihmgcaaDoor.Lgx
open Go.RowKit Go.Proofs.YtfaelejeihmgcaaDoorW.PrintWords Go.Proofs.YtfaelejeihmgcaaDoorW.PrintLast
theorem look_f0 (L : List S98) (k : ByteArray) : (lookF L k).f0 = k := by
  have h : ∀ (l : List S98) (a : S98), a.f0 = k → (l.foldl (lookStep k) a).f0 = k := by
    intro l
    induction l with
    | nil => intro a ha; exact ha
    | cons y l ih =>
      intro a ha
      rw [List.foldl_cons]
      refine ih _ ?_
      unfold lookStep
      split
      · rename_i h
        exact toList_eq_iff.1 h
      · exact ha
  exact h L _ rfl
theorem asked_get (L : List S98) (ks : List ByteArray) : asked (refGetF L ks) = ks := by
  unfold asked refGetF
  rw [List.map_map]
  conv => rhs; rw [← List.map_id ks]
  exact List.map_congr_left fun k _ => look_f0 L k
theorem sameA_refl : ∀ l : List S98, sameA l l = true
  | [] => rfl
  | x :: l => by
    rw [sameA, sameA_refl l]
    simp [neA]
def runM (M : ByteArray → Atm.Had) (l : List S43) : ByteArray → Atm.Had := l.foldl (fun M e => stepM e M) M
theorem replay_snoc (e : S43) : ∀ (l : List S43) (i : Nat) (M : ByteArray → Atm.Had), replayM i M l = (((i + l.length : Nat) : Int), true) → fails e (runM M l) = false → replayM i M (l ++ [e]) = (((i + l.length + 1 : Nat) : Int), true)
  | [], i, M, _, hf => by
    rw [List.nil_append, replayM, if_neg (by rw [show fails e M = false from hf]; decide)]
    rfl
  | x :: l, i, M, h, hf => by
    rw [replayM] at h
    split at h
    · simp at h
    · rename_i hx
      rw [List.cons_append, replayM, if_neg hx]
      have h2 : replayM (i + 1) (stepM x M) l = (((i + 1 + l.length : Nat) : Int), true) := by
        rw [h, List.length_cons, show i + (l.length + 1) = i + 1 + l.length by omega]
      rw [replay_snoc e l (i + 1) (stepM x M) h2 hf, List.length_cons, show i + (l.length + 1) + 1 = i + 1 + l.length + 1 by omega]
def comms (l : List S43) : List Int := (l.filter fun e => decide (e.f0 = 1)).map (·.f1)
theorem rising_ok : ∀ (l : List S43) (i : Nat) (top : Int) (b : Bool), (comms l).Pairwise (· < ·) → (b = true → ∀ c ∈ comms l, top < c) → risingF i top b l = (((i + l.length : Nat) : Int), true)
  | [], i, top, b, _, _ => rfl
  | e :: l, i, top, b, hp, ht => by
    unfold comms at hp ht
    rw [risingF]
    by_cases h1 : e.f0 = 1
    · rw [List.filter_cons_of_pos (by simpa using h1), List.map_cons] at hp ht
      rw [List.pairwise_cons] at hp
      rw [if_pos h1, if_neg (fun h => by have := ht h.1 e.f1 (by simp); have := h.2; omega), rising_ok l (i + 1) e.f1 true hp.2 (fun _ => hp.1), List.length_cons, show i + 1 + l.length = i + (l.length + 1) by omega]
    · rw [List.filter_cons_of_neg (by simpa using h1)] at hp ht
      rw [if_neg h1, rising_ok l (i + 1) top b hp ht, List.length_cons, show i + 1 + l.length = i + (l.length + 1) by omega]
theorem comms_snoc (l : List S43) (e : S43) : comms (l ++ [e]) = if e.f0 = 1 then comms l ++ [e.f1] else comms l := by
  unfold comms
  rw [List.filter_append, List.map_append]
  by_cases h : e.f0 = 1
  · rw [if_pos h, List.filter_cons_of_pos (by simpa using h)]
    rfl
  · rw [if_neg h, List.filter_cons_of_neg (by simpa using h)]
    simp
theorem look_commit1 (seq : Int) (x : S101) (L : List S98) (k : ByteArray) : lookF (commit1 seq x L) k = if k = x.f0 then (if x.f1 = true then ⟨k, false, ⟨#[]⟩, 0⟩ else ⟨k, true, x.f2, seq⟩) else lookF L k := by
  unfold commit1
  by_cases hx : x.f1 = true
  · rw [if_pos hx, look_without]
    split
    · rfl
    · rfl
  · rw [if_neg hx, look_ins seq x _ without_ne, look_without]
    split
    · rename_i h
      rw [h]
    · rfl
theorem look_commit (seq : Int) (k : ByteArray) (L : List S98) (ws : List S101) : lookF (commitF seq ws L) k = match lastW ws k with
    | some y => if y.f1 = true then ⟨k, false, ⟨#[]⟩, 0⟩ else ⟨k, true, y.f2, seq⟩
    | none => lookF L k := by
  have all : ∀ (n : Nat) (ws : List S101), ws.length = n → lookF (commitF seq ws L) k = match lastW ws k with
      | some y => if y.f1 = true then ⟨k, false, ⟨#[]⟩, 0⟩ else ⟨k, true, y.f2, seq⟩
      | none => lookF L k := by
    intro n
    induction n with
    | zero =>
      intro ws hn
      obtain rfl := List.length_eq_zero_iff.1 hn
      rfl
    | succ n ih =>
      intro ws hn
      rcases List.eq_nil_or_concat ws with rfl | ⟨ws, x, rfl⟩
      · simp at hn
      · rw [List.concat_eq_append] at hn ⊢
        rw [len_snoc] at hn
        rw [commitF_snoc, look_commit1, lastW_snoc]
        by_cases h : k = x.f0
        · rw [if_pos h, if_pos (show x.f0.toList = k.toList by rw [h])]
        · rw [if_neg h, if_neg (fun e => h (toList_eq_iff.1 e).symm), ih ws (by omega)]
  exact all ws.length ws rfl
/-- what the batches so far say of a key, and what the map says -/
def HistK (P : List S43) (L : List S98) (key : ByteArray) : Prop :=
  ((∀ j (h : j < P.length), P[j].f0 = 1 → lastW P[j].f2 key = none) ∧ (lookF L key).f1 = false) ∨
  ∃ b, ∃ h : b < P.length, P[b].f0 = 1 ∧ (∀ j (h : j < P.length), b < j → P[j].f0 = 1 → lastW P[j].f2 key = none) ∧ ∃ y, lastW P[b].f2 key = some y ∧ ((y.f1 = true ∧ (lookF L key).f1 = false) ∨ (y.f1 = false ∧ lookF L key = ⟨key, true, y.f2, P[b].f1⟩))
theorem get_snoc_lt {P : List S43} {e : S43} {j : Nat} (h : j < P.length) (h' : j < (P ++ [e]).length) : (P ++ [e])[j] = P[j] := List.getElem_append_left h
theorem get_snoc_eq {P : List S43} {e : S43} (h' : P.length < (P ++ [e]).length) : (P ++ [e])[P.length] = e := by simp
theorem HistK.other {P : List S43} {L : List S98} {key : ByteArray} (h : HistK P L key) (e : S43) (he : ¬ (e.f0 = 1 ∧ lastW e.f2 key ≠ none)) {L' : List S98} (hL : lookF L' key = lookF L key) : HistK (P ++ [e]) L' key := by
  have hn : ∀ j (h : j < (P ++ [e]).length), P.length ≤ j → (P ++ [e])[j].f0 = 1 → lastW (P ++ [e])[j].f2 key = none := fun j hj hle h1 => by
    obtain rfl : j = P.length := by rw [len_snoc] at hj; omega
    rw [get_snoc_eq] at h1 ⊢
    exact Classical.byContradiction fun h2 => he ⟨h1, h2⟩
  rcases h with ⟨h1, h2⟩ | ⟨b, hb, h1, h2, y, hy, h3⟩
  · refine .inl ⟨fun j hj hj1 => ?_, by rw [hL]; exact h2⟩
    by_cases hlt : j < P.length
    · rw [get_snoc_lt hlt] at hj1 ⊢
      exact h1 j hlt hj1
    · exact hn j hj (by omega) hj1
  · refine .inr ⟨b, by rw [len_snoc]; omega, by rw [get_snoc_lt hb]; exact h1, fun j hj hbj hj1 => ?_, y, by rw [get_snoc_lt hb]; exact hy, by rw [get_snoc_lt hb, hL]; exact h3⟩
    by_cases hlt : j < P.length
    · rw [get_snoc_lt hlt] at hj1 ⊢
      exact h2 j hlt hbj hj1
    · exact hn j hj (by omega) hj1
theorem HistK.commit {P : List S43} {L : List S98} {key : ByteArray} (h : HistK P L key) (seq : Int) (ws : List S101) (e : S43) (h0 : e.f0 = 1) (h1 : e.f1 = seq) (h2 : e.f2 = ws) : HistK (P ++ [e]) (commitF seq ws L) key := by
  subst h1 h2
  cases hw : lastW e.f2 key with
  | none =>
    refine h.other e (fun h' => h'.2 hw) ?_
    rw [look_commit, hw]
  | some y =>
    have hlt : P.length < (P ++ [e]).length := by rw [len_snoc]; omega
    refine .inr ⟨P.length, hlt, by rw [get_snoc_eq]; exact h0, fun j hj hlt2 _ => by rw [len_snoc] at hj; omega, y, by rw [get_snoc_eq]; exact hw, ?_⟩
    rw [look_commit, hw, get_snoc_eq]
    cases hy : y.f1
    · exact .inr ⟨rfl, by simp [hy]⟩
    · exact .inl ⟨rfl, by simp [hy]⟩
theorem commN_eq (P : List S43) (seq : Int) (b : Nat) : ∀ n : Nat, n ≤ P.length → b < n → (∀ hb : b < P.length, P[b].f0 = 1 ∧ P[b].f1 = seq) → (∀ j (h : j < P.length), b < j → P[j].f0 = 1 → P[j].f1 ≠ seq) → commN P seq n = b
  | 0, _, h, _, _ => by omega
  | n + 1, hn, hb, h1, h2 => by
    rw [commN, rd43 (show n < P.length by omega)]
    by_cases hbn : b = n
    · subst hbn
      rw [if_pos (h1 (by omega))]
    · rw [if_neg (fun h => h2 n (by omega) (by omega) h.1 h.2)]
      exact commN_eq P seq b n (by omega) (by omega) h1 h2
theorem comms_distinct {P : List S43} (hp : (comms P).Pairwise (· < ·)) {b : Nat} (hb : b < P.length) (h1 : P[b].f0 = 1) : ∀ j (h : j < P.length), b < j → P[j].f0 = 1 → P[j].f1 ≠ P[b].f1 := fun j hj hbj hj1 e => by
  unfold comms at hp
  rw [List.pairwise_map, List.pairwise_filter] at hp
  have := List.pairwise_iff_getElem.1 hp b j hb hj hbj (by simpa using h1) (by simpa using hj1)
  omega
theorem lastT_some {l : List S101} {k : ByteArray} {y : S101} (h : lastW l k = some y) : lastT l k = (y.f0, y.f1, y.f2, true) := by unfold lastT; rw [h]
theorem lastT_none {l : List S101} {k : ByteArray} (h : lastW l k = none) : lastT l k = (⟨#[]⟩, false, ⟨#[]⟩, false) := by unfold lastT; rw [h]
theorem whole_hist (P : List S43) (L : List S98) (hp : (comms P).Pairwise (· < ·)) (hH : ∀ key, HistK P L key) (ks : List ByteArray) : (refGetF L ks).all (fun a => !a.f1 || wholeB P a (refGetF L ks)) = true := by
  rw [List.all_eq_true]
  intro a ha
  obtain ⟨k, hk, rfl⟩ := List.mem_map.1 ha
  cases hi : (lookF L k).f1
  · rfl
  · simp only [Bool.not_true, Bool.false_or]
    rcases hH k with ⟨_, h⟩ | ⟨b, hb, h1, h2, y, hy, ⟨_, h⟩ | ⟨hy1, h⟩⟩
    · rw [hi] at h; cases h
    · rw [hi] at h; cases h
    · have hc : commN P (lookF L k).f3 P.length = b := by
        rw [h]
        exact commN_eq P P[b].f1 b P.length (Nat.le_refl _) hb (fun _ => ⟨h1, rfl⟩) (comms_distinct hp hb h1)
      unfold wholeB
      rw [hc, if_neg (by omega), Int.toNat_natCast, Bool.and_eq_true]
      constructor
      · unfold goodB
        rw [rd43 hb, h]
        simp only [lastT_some hy, hy1, Bool.not_false, Bool.true_and, beq_self_eq_true]
      · rw [List.all_eq_true]
        intro c hcm
        obtain ⟨k', hk', rfl⟩ := List.mem_map.1 hcm
        unfold okB
        rw [look_f0, rd43 hb]
        cases hw : lastW P[b].f2 k' with
        | none => rw [lastT_none hw]; rfl
        | some z =>
          rw [lastT_some hw]
          simp only [Bool.not_true, Bool.false_or]
          rcases hH k' with ⟨g1, _⟩ | ⟨b', hb', g1, g2, y', hy', g3⟩
          · rw [g1 b hb h1] at hw; cases hw
          · have hle : b ≤ b' := by
              rcases Nat.lt_or_ge b' b with hlt | hge
              · rw [g2 b hb hlt h1] at hw; cases hw
              · exact hge
            rcases g3 with ⟨gy, gl⟩ | ⟨gy, gl⟩
            · rw [if_neg (by rw [gl]; decide), List.any_eq_true]
              refine ⟨P[b'], ?_, ?_⟩
              · rw [List.mem_iff_getElem]
                exact ⟨b' - b, by rw [List.length_drop]; omega, by rw [List.getElem_drop]; congr 1; omega⟩
              · unfold delE
                rw [lastT_some hy', g1, gy]
                rfl
            · rw [if_pos (by rw [gl])]
              have hc' : commN P (lookF L k').f3 P.length = b' := by
                rw [gl]
                exact commN_eq P P[b'].f1 b' P.length (Nat.le_refl _) hb' (fun _ => ⟨g1, rfl⟩) (comms_distinct hp hb' g1)
              rw [hc', decide_eq_true_iff]
              omega
/-- what a row turns to, where it is no event of any kind -/
theorem row1_is {x : S58} {seq : Int} {L : List S98} {e : S43} {seq' : Int} {L' : List S98} (h7 : pickI x.f0 8 ≠ 7) (h : row1 x seq L = some (e, seq', L')) :
    (pickI x.f0 8 = 3 ∧ e.f0 = 3 ∧ seq' = seq ∧ L' = forgetF e.f4 L) ∨ (pickI x.f0 8 ≠ 3 ∧ e.f0 = 2 ∧ seq' = seq ∧ L' = L ∧ ∃ ks, e.f3 = refGetF L ks) ∨ (pickI x.f0 8 ≠ 3 ∧ e.f0 = 1 ∧ e.f1 = nextSeq seq x.f1 ∧ seq' = nextSeq seq x.f1 ∧ L' = commitF (nextSeq seq x.f1) e.f2 L) := by
  unfold row1 at h
  split at h
  · rename_i h3
    obtain ⟨ks, _, hr⟩ := Option.bind_eq_some_iff.1 h
    simp only [Option.some.injEq, Prod.mk.injEq] at hr
    obtain ⟨rfl, rfl, rfl⟩ := hr
    exact .inl ⟨h3, rfl, rfl, rfl⟩
  · rename_i h3
    split at h
    · obtain ⟨ks, _, hr⟩ := Option.bind_eq_some_iff.1 h
      simp only [Option.some.injEq, Prod.mk.injEq] at hr
      obtain ⟨rfl, rfl, rfl⟩ := hr
      exact .inr (.inl ⟨h3, rfl, rfl, rfl, ks, rfl⟩)
    · obtain ⟨ws, _, hr⟩ := Option.bind_eq_some_iff.1 h
      simp only [Option.some.injEq, Prod.mk.injEq] at hr
      obtain ⟨rfl, rfl, rfl⟩ := hr
      exact .inr (.inr ⟨h3, rfl, rfl, rfl, rfl⟩)
/-- a Got tells of whole batches -/
def WP (out : List S43) : Prop := ∀ i (h : i < out.length), out[i].f0 = 2 → out[i].f3.all (fun a => !a.f1 || wholeB (out.take i) a out[i].f3) = true
theorem WP.snoc {out : List S43} (h : WP out) (e : S43) (he : e.f0 = 2 → e.f3.all (fun a => !a.f1 || wholeB out a e.f3) = true) : WP (out ++ [e]) := fun i hi h2 => by
  by_cases hlt : i < out.length
  · rw [List.take_append_of_le_length (by omega)]
    rw [get_snoc_lt hlt] at h2 ⊢
    exact h i hlt h2
  · obtain rfl : i = out.length := by rw [len_snoc] at hi; omega
    rw [get_snoc_eq] at h2
    have ht : (out ++ [e]).take out.length = out := by rw [List.take_append_of_le_length (Nat.le_refl _), List.take_length]
    rw [ht, get_snoc_eq]
    exact he h2
structure RunI (fg : Bool) (out : List S43) (seq : Int) (L : List S98) : Prop where
  rep : replayM 0 (fun _ => Atm.nought) out = ((out.length : Int), true)
  tel : Tells L (runM (fun _ => Atm.nought) out)
  up : (comms out).Pairwise (· < ·)
  top : ∀ c ∈ comms out, c ≤ seq
  s0 : 0 ≤ seq
  s1 : seq ≤ 3 * out.length
  hist : fg = false → ∀ key, HistK out L key
  wh : fg = false → WP out
theorem runM_snoc (M : ByteArray → Atm.Had) (l : List S43) (e : S43) : runM M (l ++ [e]) = stepM e (runM M l) := by
  unfold runM
  rw [List.foldl_append]
  rfl
theorem RunI.step {fg : Bool} {out : List S43} {seq : Int} {L : List S98} (h : RunI fg out seq L) {x : S58} {e : S43} {seq' : Int} {L' : List S98} (hi : out.length ≤ 30) (hx : 0 ≤ x.f1) (h7 : pickI x.f0 8 ≠ 7) (h3 : fg = false → pickI x.f0 8 ≠ 3) (hr : row1 x seq L = some (e, seq', L')) : RunI fg (out ++ [e]) seq' L' := by
  have rep : fails e (runM (fun _ => Atm.nought) out) = false → replayM 0 (fun _ => Atm.nought) (out ++ [e]) = (((out ++ [e]).length : Int), true) := fun hf => by
    have h0 : replayM 0 (fun _ => Atm.nought) out = (((0 + out.length : Nat) : Int), true) := by rw [h.rep, Nat.zero_add]
    rw [replay_snoc e out 0 _ h0 hf, len_snoc, Nat.zero_add]
  have tel : stepR e L = L' → Tells L' (runM (fun _ => Atm.nought) (out ++ [e])) := fun hs => by
    rw [runM_snoc, ← hs]
    exact h.tel.step e
  rcases row1_is h7 hr with ⟨p3, e0, rfl, rfl⟩ | ⟨p3, e0, rfl, rfl, ks, ek⟩ | ⟨p3, e0, e1, rfl, rfl⟩
  · have hc : comms (out ++ [e]) = comms out := by rw [comms_snoc, if_neg (by rw [e0]; decide)]
    refine ⟨rep (by unfold fails; rw [e0]; rfl), tel (by unfold stepR; rw [e0, if_neg (by decide), if_pos rfl]), by rw [hc]; exact h.up, by rw [hc]; exact h.top, h.s0, by have := h.s1; rw [len_snoc]; omega, fun hf => absurd p3 (h3 hf), fun hf => absurd p3 (h3 hf)⟩
  · have hc : comms (out ++ [e]) = comms out := by rw [comms_snoc, if_neg (by rw [e0]; decide)]
    refine ⟨rep ?_, tel (by unfold stepR; rw [e0, if_neg (by decide), if_neg (by decide)]), by rw [hc]; exact h.up, by rw [hc]; exact h.top, h.s0, by have := h.s1; rw [len_snoc]; omega, fun hf key => (h.hist hf key).other e (fun h' => by have := h'.1; omega) rfl, fun hf => (h.wh hf).snoc e (fun _ => by rw [ek]; exact whole_hist out _ h.up (h.hist hf) ks)⟩
    unfold fails
    rw [e0, ek, asked_get, ← h.tel.get, sameA_refl]
    rfl
  · have hn : nextSeq seq x.f1 = seq + 1 + Int.tmod x.f1 3 ∧ 0 ≤ Int.tmod x.f1 3 ∧ Int.tmod x.f1 3 ≤ 2 := by
      have h1 := Int.tmod_lt_of_pos x.f1 (show (0 : Int) < 3 by decide)
      have h2 : 0 ≤ Int.tmod x.f1 3 := Int.tmod_nonneg _ hx
      have := h.s0
      have := h.s1
      unfold nextSeq
      omega
    have hc : comms (out ++ [e]) = comms out ++ [nextSeq seq x.f1] := by rw [comms_snoc, if_pos e0, e1]
    have := h.s0
    have := h.s1
    refine ⟨rep (by unfold fails; rw [e0]; rfl), tel (by unfold stepR; rw [e0, if_pos rfl, e1]), ?_, ?_, by omega, by rw [len_snoc]; omega, fun hf key => (h.hist hf key).commit _ _ e e0 e1 rfl, fun hf => (h.wh hf).snoc e (fun h2 => by omega)⟩
    · rw [hc, List.pairwise_append]
      refine ⟨h.up, List.pairwise_singleton _ _, fun c hcm d hd => ?_⟩
      rw [List.mem_singleton] at hd
      subst hd
      have := h.top c hcm
      omega
    · rw [hc]
      intro c hcm
      rcases List.mem_append.1 hcm with hcm | hcm
      · have := h.top c hcm
        omega
      · rw [List.mem_singleton] at hcm
        omega
theorem run_events (fg : Bool) : ∀ (l : List S58) (i : Nat) (seq : Int) (L : List S98) (out r : List S43), (∀ x ∈ l, 0 ≤ x.f1 ∧ pickI x.f0 8 ≠ 7 ∧ (fg = false → pickI x.f0 8 ≠ 3)) → out.length = i → i ≤ 30 → RunI fg out seq L → eventsG l (-1) i seq L out = some r → ∃ seq' L', RunI fg r seq' L'
  | [], _, seq, L, out, r, _, _, _, h, he => by
    unfold eventsG at he
    obtain rfl := Option.some.inj he
    exact ⟨seq, L, h⟩
  | x :: l, i, seq, L, out, r, hx, ho, hi, h, he => by
    unfold eventsG at he
    split at he
    · obtain ⟨⟨e, seq', L'⟩, hr, he⟩ := Option.bind_eq_some_iff.1 he
      split at he
      · rw [if_neg (by omega)] at he
        obtain ⟨x0, x7, x3⟩ := hx x (by simp)
        exact run_events fg l (i + 1) seq' L' (out ++ [e]) r (fun y hy => hx y (by simp [hy])) (by rw [len_snoc, ho]) (by omega) (h.step (by omega) x0 x7 x3 hr) he
      · cases he
    · obtain rfl := Option.some.inj he
      exact ⟨seq, L, h⟩
theorem wholeF_ok (x : List S43) (h : ∀ j, j < x.length → (rd_T43 x (j : Int)).f0 = 2 → wholeAtB x j = true) : ∀ (d i : Nat), x.length - i = d → i ≤ x.length → wholeF x i (x.drop i) = ((x.length : Int), true) := by
  intro d
  induction d with
  | zero =>
    intro i hd hi
    rw [List.drop_eq_nil_of_le (by omega), wholeF, show i = x.length by omega]
  | succ d ih =>
    intro i hd hi
    have hlt : i < x.length := by omega
    rw [List.drop_eq_getElem_cons hlt, wholeF]
    rw [if_neg (fun hh => by have h2 := h i hlt (by rw [rd43 hlt]; exact hh.1); rw [hh.2] at h2; cases h2)]
    exact ih (i + 1) (by omega) (by omega)
theorem wholeF_wp {x : List S43} (h : WP x) : wholeF x 0 x = ((x.length : Int), true) := by
  have := wholeF_ok x (fun j hj h2 => by
    rw [rd43 hj] at h2
    have hw := h j hj h2
    unfold wholeAtB
    rw [rd43 hj]
    rw [List.all_eq_true] at hw ⊢
    intro a ha
    rw [← whole_eq x j (by omega)]
    exact hw a ha) x.length 0 (by omega) (by omega)
  rwa [List.drop_zero] at this
theorem RunI.start (fg : Bool) : RunI fg [] 0 [] :=
  ⟨rfl, Tells.none, List.Pairwise.nil, fun c hc => by simp [comms] at hc, Int.le_refl _, by simp, fun _ key => .inl ⟨fun j hj => by simp at hj, rfl⟩, fun _ i hi => by simp at hi⟩
end Go.Proofs.YtfaelejeihmgcaaDoor.Lgx
end

section
namespace Go.Proofs.YtfaelejeihmgcaaDoor.Lgx
open Go.RowKit
theorem u32_in {v : Int} (h : (Lit.int .u32 v).wf = true) : 0 ≤ v ∧ v ≤ 4294967295 := by
  simp [Lit.wf, IntKind.min, IntKind.max, IntKind.signed, IntKind.bits] at h
  omega
theorem rowB_of {N : Nat} (hN : N ≤ 1048576) {x : S58} (h : ok58 N x) : RowB x := by
  obtain ⟨_, _, ⟨_, h2⟩, _, h4, _, _⟩ := h
  obtain ⟨_, g1, _, ⟨_, g3⟩, _⟩ := h4
  exact ⟨⟨(u32_in g1).1, (u32_in g1).2, fun y hy => u32_in (g3 y hy).2.2.2⟩, fun y hy => Nat.le_trans (h2 y hy).2.2.1 (by omega)⟩
end Go.Proofs.YtfaelejeihmgcaaDoor.Lgx
end

section
namespace Go.Proofs.YtfaelejeihmgcaaDoor.Lgx
open Go.RowKit Go.Proofs.YtfaelejeihmgcaaDoorW.PrintWords Go.Proofs.YtfaelejeihmgcaaDoorW.PrintLast
def OwnB (f : Bool) (x : S58) : Prop := (RowB x ∧ 0 ≤ x.f1) ∧ pickI x.f0 8 ≠ 7 ∧ (f = false → pickI x.f0 8 ≠ 3)
theorem ownG_is : ∀ (l : List S58) (i : Nat) (own : List S58) (f : Bool) (own' : List S58) (fg : Bool), ownG l i own f = (own', fg) → (∀ x ∈ l, RowB x ∧ 0 ≤ x.f1) → (∀ x ∈ own, OwnB f x) → own.length ≤ i → i ≤ 30 → (∀ x ∈ own', OwnB fg x) ∧ own'.length ≤ 30
  | [], i, own, f, own', fg, h, _, hs, hl, hi => by
    simp only [ownG, Prod.mk.injEq] at h
    obtain ⟨rfl, rfl⟩ := h
    exact ⟨hs, by omega⟩
  | x :: l, i, own, f, own', fg, h, hx, hs, hl, hi => by
    rw [ownG] at h
    split at h
    · split at h
      · exact ownG_is l (i + 1) own f own' fg h (fun y hy => hx y (by simp [hy])) hs (by omega) (by omega)
      · rename_i h7
        refine ownG_is l (i + 1) (own ++ [x]) _ own' fg h (fun y hy => hx y (by simp [hy])) (le_snoc (fun y hy => ?_) ?_) (by rw [len_snoc]; omega) (by omega)
        · obtain ⟨a, b, c⟩ := hs y hy
          exact ⟨a, b, fun hf => c (Bool.or_eq_false_iff.1 hf).1⟩
        · exact ⟨hx x (by simp), h7, fun hf => of_decide_eq_false (Bool.or_eq_false_iff.1 hf).2⟩
    · simp only [Prod.mk.injEq] at h
      obtain ⟨rfl, rfl⟩ := h
      exact ⟨hs, by omega⟩
theorem LedgerRuns.walk (l : List S58) (N : Nat) (hN : N ≤ 1048576) (A : Option Addr) (c : Nat) (W : World) (hC : Kd.C k58 W A l.length l) (hc : l.length ≤ c) (hl : ∀ x ∈ l, ok58 N x) (hT : Tabs W) :
    Calls Tryd.prog 13 #[.slice A l.length c] W fun e w' => e = .returned (.bool true) ∧ Below W.heap.size W w' := by
  obtain ⟨⟨own, fg⟩, hown⟩ : ∃ r, ownG l 0 [] false = r := ⟨_, rfl⟩
  obtain ⟨hO, ho30⟩ := ownG_is l 0 [] false own fg hown (fun y hy => ⟨rowB_of hN (hl y hy), (u32_in (hl y hy).2.1).1⟩) (fun y hy => by simp at hy) (by simp) (by decide)
  obtain ⟨x, hx, h30, hB⟩ := events_ok own (-1) (by omega) (fun y hy => (hO y hy).1.1)
  have hG : eventsG own (-1) 0 0 [] [] = some x := by
    have h := hx
    unfold cachepotlaw21_events.f at h
    rw [if_pos (by omega)] at h
    exact h
  obtain ⟨seq', L', R⟩ := run_events fg own 0 0 [] [] x (fun y hy => ⟨(hO y hy).1.2, (hO y hy).2⟩) rfl (by decide) (RunI.start fg) hG
  have h1 := replay_f h30 hB
  rw [R.rep] at h1
  have h3 := rising_f x h30 1000 (by decide)
  rw [rising_ok x 0 0 false R.up (fun h => by cases h), Nat.zero_add] at h3
  obtain ⟨⟨q, wh⟩, hq⟩ : ∃ r, wholeF x 0 x = r := ⟨_, rfl⟩
  refine LedgerRuns_walk A c l W hC hc hT own fg x q wh 1000 hown hx h1 h3 hq (by omega) (fun e he => by have := (hB e he).n2; omega) (fun e he => by have := (hB e he).n3; omega) ?_
  cases fg
  · rw [wholeF_wp (R.wh rfl)] at hq
    simp only [Prod.mk.injEq] at hq
    exact .inr ⟨rfl, hq.2.symm, hq.1.symm⟩
  · exact .inl rfl
end Go.Proofs.YtfaelejeihmgcaaDoor.Lgx
end
