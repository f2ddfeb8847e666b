/-
  Texts of mine, and texts that print.sh and pp.py wrote, merged and cut to what is used: HandT, HandU, HandY, HandN, Lg7, Lg8, Lg9, SpecW, PureR
-/
import Derived.Test.YtfaelejeihmgcaaDoorProg
import Derived.Below
import Derived.Lib.ItoaMem
import Derived.Lib.LaidTab
import Derived.Deep.Draws
import Derived.Deep.AppendLies
import Derived.Maps.AppendAt
import Derived.OwnWalk
import Derived.Laws.BytesArg
import Derived.Laws.MakeOwn
import Derived.Laws.OwnMore
import Derived.Deep.OwnRows
import Derived.Tactics
import Derived.Lib.ConvBytes
import Derived.Laws.Slices
import Derived.WalkKit
import Derived.KernelRfl
import Derived.RowKit3
import Derived.Deep.LoopGhost
import Derived.Deep.QuietTactic
import Derived.BigQuiet
import Derived.WideLaws
import Derived.Deep.DeepCutAuto
import Derived.Deep.CutBlock
import Derived.Deep.RegionHeld3
import Derived.Laws.Rows
import Derived.Lib.AppendStr
import Derived.ArgAppend
import Derived.Laws.IdiomCopy
import Derived.RowKit
import Derived.Test.YtfaelejeihmgcaaDoorRows
import Derived.ChangeArms
import Derived.DataReads
import Derived.DataElems
import Derived.OrdersHeld
import Derived.Laws.BitsLemmas
import Derived.Laws.StructEq
import Derived.Test.YtfaelejeihmgcaaDoorCards
import Derived.Test.YtfaelejeihmgcaaDoorTie
import Derived.Lib.LaidU8
import Derived.LaidMore
import Derived.Lay
import Derived.ProofKit
import Derived.OpenShut
import Derived.SevenTiedAt
import Derived.Stop.Joined
import Derived.Deep.DeepHandedRow
import Derived.SliceStrings
import Derived.Carry
import Derived.FnData
import Derived.Outline
import Derived.Tactics2
import Derived.StillTailTactics
import Derived.StillTactics
import Derived.Lib.Builder
import Derived.Lib.Hide
import Derived.IntWalk
import Derived.WalkSpells
import Derived.Lib.DecodeNEq
import Derived.Deep.MidRow
import Derived.Maps.OwnSet
import Derived.Shelf.Strconv.Itoa0
import Derived.Shelf.Strconv.Itoa1
import Derived.Shelf.LaysM
import Derived.Shelf.Strconv.Itoa2
import Derived.Lib.Strings
import Derived.Lib.Slices
import Derived.Lib.Walk
import Derived.Lib.UnsafeStr
import Derived.Shelf.Strings.Builder1
import Derived.Shelf.Strings.OnBuilder
import Derived.Shelf.Unicode.DecodeSlow
import Derived.Shelf.Unicode.DecodeAny
import Derived.Laws.Externs
import Derived.Laws.Pointers
import Derived.Lib.AppendIntMem
import Derived.BigCall
import Derived.BigGuard
import Derived.Test.YtfaelejeihmgcaaDoorMp0

section
namespace Go.Proofs.YtfaelejeihmgcaaDoor.Lgx
open Go.RowKit Go.Proofs.YtfaelejeihmgcaaDoorW.PrintWords Go.Proofs.YtfaelejeihmgcaaDoorW.PrintLast
def pickI (n m : Int) : Int := if Int.tmod n m < 0 then Int.tmod n m + m else Int.tmod n m
theorem pickI_f (n m : Int) (h0 : 0 < m) (h1 : m ≤ 9223372036854775807) : cachepotbook_Pick.f n m = some (pickI n m) := by
  have hb : Int.tmod n m < m ∧ -m < Int.tmod n m := ⟨Int.tmod_lt_of_pos n h0, Int.lt_tmod_of_pos n h0⟩
  unfold cachepotbook_Pick.f pickI
  rw [if_neg (by omega)]
  split
  · rw [show wrap64 (Int.tmod n m + m) = Int.tmod n m + m by unfold wrap64; omega]
  · rfl
theorem pickI_in (n m : Int) (h0 : 0 < m) (h1 : m ≤ 9223372036854775807) : 0 ≤ pickI n m ∧ pickI n m < m := pick_ok n m _ h0 h1 (pickI_f n m h0 h1)
set_option maxRecDepth 100000 in
theorem pick_same (n m : Int) (h0 : 0 < m) (h1 : m ≤ 9223372036854775807) (w : World) : Calls Tryd.prog 25 #[.int .i64 n, .int .i64 m] w fun e w' => e = .returned (.int .i64 (pickI n m)) ∧ w' = w := by
  have hb : Int.tmod n m < m ∧ -m < Int.tmod n m := ⟨Int.tmod_lt_of_pos n h0, Int.lt_tmod_of_pos n h0⟩
  have z0 : (m == 0) = false := beq_eq_false_iff_ne.2 (by omega)
  have z1 : ¬ m = 0 := by omega
  by_cases hn : Int.tmod n m < 0
  · have e : pickI n m = Int.tmod n m + m := by rw [pickI, if_pos hn]
    have d1 : decide (Int.tmod n m < 0) = true := decide_eq_true hn
    have E := Lib.hid e
    obtain ⟨b1, b2⟩ := hb
    clear e
    go_enter Tryd.func25, Tryd.ntmps25
    go_wp2
    go_ret
    exact ⟨by rw [E.out]; rfl, rfl⟩
  · have e : pickI n m = Int.tmod n m := by rw [pickI, if_neg hn]
    have d1 : decide (Int.tmod n m < 0) = false := decide_eq_false hn
    have E := Lib.hid e
    clear e
    go_enter Tryd.func25, Tryd.ntmps25
    go_wp2
    go_ret
    exact ⟨by rw [E.out]; rfl, rfl⟩
set_option maxHeartbeats 8000000 in
set_option maxRecDepth 100000 in
theorem turned_none (f0 f1 : Int) (A2 : Option Addr) (n2 c2 : Nat) (A3 : Option Addr) (c3 : Nat) (A4 : Option Addr) (n4 c4 : Nat) (at_ how : Int) (w : World) (hf : ¬ f0 = 1) :
    Calls Tryd.prog 71 #[.agg #[.int .i64 f0, .int .u32 f1, .slice A2 n2 c2, .slice A3 0 c3, .slice A4 n4 c4], .int .i64 at_, .int .i64 how] w fun e w' =>
      e = .returned (.agg #[.int .i64 f0, .int .u32 f1, .slice A2 n2 c2, .slice A3 0 c3, .slice A4 n4 c4]) ∧ Below w.heap.size w w' := by
  have t1 : (f0 == 1) = false := beq_eq_false_iff_ne.2 hf
  have hb1 := heap_alloc_new w (.cells #[.int .i64 f0, .int .u32 f1, .slice A2 n2 c2, .slice A3 0 c3, .slice A4 n4 c4] 43)
  have hw1 := below_alloc (Below.refl _ w) (.cells #[.int .i64 f0, .int .u32 f1, .slice A2 n2 c2, .slice A3 0 c3, .slice A4 n4 c4] 43)
  have hz1 : (w.alloc (.cells #[.int .i64 f0, .int .u32 f1, .slice A2 n2 c2, .slice A3 0 c3, .slice A4 n4 c4] 43)).heap.size = w.heap.size + 1 := by simp
  go_enter Tryd.func71, Tryd.ntmps71
  go_upto_region 1 with (fail)
  generalize w.alloc (.cells #[.int .i64 f0, .int .u32 f1, .slice A2 n2 c2, .slice A3 0 c3, .slice A4 n4 c4] 43) = w1 at hb1 hw1 hz1 ⊢
  have hb2 := heap_alloc_new w1 (.cells #[.int .i64 0, .int .u32 0, .slice none 0 0, .slice none 0 0, .slice none 0 0] 43)
  rw [hz1] at hb2
  have hb1' : (w1.alloc (.cells #[.int .i64 0, .int .u32 0, .slice none 0 0, .slice none 0 0, .slice none 0 0] 43)).heap[w.heap.size]? = some (.cells #[.int .i64 f0, .int .u32 f1, .slice A2 n2 c2, .slice A3 0 c3, .slice A4 n4 c4] 43) := by
    rw [Lib.alloc_old w1 _ _ (by omega)]; exact hb1
  have hw2 := below_alloc hw1 (.cells #[.int .i64 0, .int .u32 0, .slice none 0 0, .slice none 0 0, .slice none 0 0] 43)
  generalize w1.alloc (.cells #[.int .i64 0, .int .u32 0, .slice none 0 0, .slice none 0 0, .slice none 0 0] 43) = w2 at hb2 hb1' hw2 ⊢
  clear hb1 hw1 hz1
  have y0 : w2.cell? ⟨w.heap.size, 0, none⟩ = some (.int .i64 f0) := Lib.cell_of_heap hb1' 0
  have y1 : w2.cell? ⟨w.heap.size, 1, none⟩ = some (.int .u32 f1) := Lib.cell_of_heap hb1' 1
  have y2 : w2.cell? ⟨w.heap.size, 2, none⟩ = some (.slice A2 n2 c2) := Lib.cell_of_heap hb1' 2
  have y3 : w2.cell? ⟨w.heap.size, 3, none⟩ = some (.slice A3 0 c3) := Lib.cell_of_heap hb1' 3
  have y4 : w2.cell? ⟨w.heap.size, 4, none⟩ = some (.slice A4 n4 c4) := Lib.cell_of_heap hb1' 4
  have r0 : w2.cell? ⟨w.heap.size + 1, 0, none⟩ = some (.int .i64 0) := Lib.cell_of_heap hb2 0
  have r1 : w2.cell? ⟨w.heap.size + 1, 1, none⟩ = some (.int .u32 0) := Lib.cell_of_heap hb2 1
  have r2 : w2.cell? ⟨w.heap.size + 1, 2, none⟩ = some (.slice none 0 0) := Lib.cell_of_heap hb2 2
  have r3 : w2.cell? ⟨w.heap.size + 1, 3, none⟩ = some (.slice none 0 0) := Lib.cell_of_heap hb2 3
  have r4 : w2.cell? ⟨w.heap.size + 1, 4, none⟩ = some (.slice none 0 0) := Lib.cell_of_heap hb2 4
  have fr0 : w2.frozen? ⟨w.heap.size + 1, 0, none⟩ = false := Lib.frozen_of_heap hb2 0
  have fr1 : w2.frozen? ⟨w.heap.size + 1, 1, none⟩ = false := Lib.frozen_of_heap hb2 1
  have fr2 : w2.frozen? ⟨w.heap.size + 1, 2, none⟩ = false := Lib.frozen_of_heap hb2 2
  have fr3 : w2.frozen? ⟨w.heap.size + 1, 3, none⟩ = false := Lib.frozen_of_heap hb2 3
  have fr4 : w2.frozen? ⟨w.heap.size + 1, 4, none⟩ = false := Lib.frozen_of_heap hb2 4
  have fy1 : w2.frozen? ⟨w.heap.size, 1, none⟩ = false := Lib.frozen_of_heap hb1' 1
  go_wp2
  refine bodyPost_ret (v := .agg #[.int .i64 f0, .int .u32 f1, .slice A2 n2 c2, .slice A3 0 c3, .slice A4 n4 c4]) (by simp [results, Tryd.results71, go_sem, r0, r1, r2, r3, r4]) rfl ⟨rfl, ?_⟩
  repeat (first | (with_reducible exact hw2) | (refine Below.setCell ?_ (by simp) _))
set_option maxHeartbeats 8000000 in
set_option maxRecDepth 100000 in
theorem turned_commit (f1 : Int) (A2 : Option Addr) (n2 c2 : Nat) (A3 : Option Addr) (n3 c3 : Nat) (A4 : Option Addr) (n4 c4 : Nat) (at_ how : Int) (w : World) (h0 : 0 ≤ f1) (h1 : f1 ≤ 4294967295) :
    Calls Tryd.prog 71 #[.agg #[.int .i64 1, .int .u32 f1, .slice A2 n2 c2, .slice A3 n3 c3, .slice A4 n4 c4], .int .i64 at_, .int .i64 how] w fun e w' =>
      e = .returned (.agg #[.int .i64 1, .int .u32 (f1 / 2 + pickI at_ 3), .slice A2 n2 c2, .slice A3 n3 c3, .slice A4 n4 c4]) ∧ Below w.heap.size w w' := by
  obtain ⟨p0, p1⟩ := pickI_in at_ 3 (by decide) (by decide)
  have hp := pick_same at_ 3 (by decide) (by decide)
  have hb1 := heap_alloc_new w (.cells #[.int .i64 1, .int .u32 f1, .slice A2 n2 c2, .slice A3 n3 c3, .slice A4 n4 c4] 43)
  have hw1 := below_alloc (Below.refl _ w) (.cells #[.int .i64 1, .int .u32 f1, .slice A2 n2 c2, .slice A3 n3 c3, .slice A4 n4 c4] 43)
  have hz1 : (w.alloc (.cells #[.int .i64 1, .int .u32 f1, .slice A2 n2 c2, .slice A3 n3 c3, .slice A4 n4 c4] 43)).heap.size = w.heap.size + 1 := by simp
  go_enter Tryd.func71, Tryd.ntmps71
  go_wp2
  generalize w.alloc (.cells #[.int .i64 1, .int .u32 f1, .slice A2 n2 c2, .slice A3 n3 c3, .slice A4 n4 c4] 43) = w1 at hb1 hw1 hz1 ⊢
  have hb2 := heap_alloc_new w1 (.cells #[.int .i64 0, .int .u32 0, .slice none 0 0, .slice none 0 0, .slice none 0 0] 43)
  rw [hz1] at hb2
  have hb1' : (w1.alloc (.cells #[.int .i64 0, .int .u32 0, .slice none 0 0, .slice none 0 0, .slice none 0 0] 43)).heap[w.heap.size]? = some (.cells #[.int .i64 1, .int .u32 f1, .slice A2 n2 c2, .slice A3 n3 c3, .slice A4 n4 c4] 43) := by
    rw [Lib.alloc_old w1 _ _ (by omega)]; exact hb1
  have hw2 := below_alloc hw1 (.cells #[.int .i64 0, .int .u32 0, .slice none 0 0, .slice none 0 0, .slice none 0 0] 43)
  generalize w1.alloc (.cells #[.int .i64 0, .int .u32 0, .slice none 0 0, .slice none 0 0, .slice none 0 0] 43) = w2 at hb2 hb1' hw2 ⊢
  clear hb1 hw1 hz1
  have y0 : w2.cell? ⟨w.heap.size, 0, none⟩ = some (.int .i64 1) := Lib.cell_of_heap hb1' 0
  have y1 : w2.cell? ⟨w.heap.size, 1, none⟩ = some (.int .u32 f1) := Lib.cell_of_heap hb1' 1
  have y2 : w2.cell? ⟨w.heap.size, 2, none⟩ = some (.slice A2 n2 c2) := Lib.cell_of_heap hb1' 2
  have y3 : w2.cell? ⟨w.heap.size, 3, none⟩ = some (.slice A3 n3 c3) := Lib.cell_of_heap hb1' 3
  have y4 : w2.cell? ⟨w.heap.size, 4, none⟩ = some (.slice A4 n4 c4) := Lib.cell_of_heap hb1' 4
  have r0 : w2.cell? ⟨w.heap.size + 1, 0, none⟩ = some (.int .i64 0) := Lib.cell_of_heap hb2 0
  have r1 : w2.cell? ⟨w.heap.size + 1, 1, none⟩ = some (.int .u32 0) := Lib.cell_of_heap hb2 1
  have r2 : w2.cell? ⟨w.heap.size + 1, 2, none⟩ = some (.slice none 0 0) := Lib.cell_of_heap hb2 2
  have r3 : w2.cell? ⟨w.heap.size + 1, 3, none⟩ = some (.slice none 0 0) := Lib.cell_of_heap hb2 3
  have r4 : w2.cell? ⟨w.heap.size + 1, 4, none⟩ = some (.slice none 0 0) := Lib.cell_of_heap hb2 4
  have fr0 : w2.frozen? ⟨w.heap.size + 1, 0, none⟩ = false := Lib.frozen_of_heap hb2 0
  have fr1 : w2.frozen? ⟨w.heap.size + 1, 1, none⟩ = false := Lib.frozen_of_heap hb2 1
  have fr2 : w2.frozen? ⟨w.heap.size + 1, 2, none⟩ = false := Lib.frozen_of_heap hb2 2
  have fr3 : w2.frozen? ⟨w.heap.size + 1, 3, none⟩ = false := Lib.frozen_of_heap hb2 3
  have fr4 : w2.frozen? ⟨w.heap.size + 1, 4, none⟩ = false := Lib.frozen_of_heap hb2 4
  have fy1 : w2.frozen? ⟨w.heap.size, 1, none⟩ = false := Lib.frozen_of_heap hb1' 1
  refine wp_region_still_tail 8 (by kernel_rfl) (by kernel_rfl) ?_
  simp only [List.take_succ_cons, List.take_zero, List.drop_succ_cons, List.drop_zero]
  repeat still_step
  still_call (hp _)
  repeat still_step
  refine wpStill_nil ?_
  change wpList _ _ _ _ _ w2.drew
  go_wp2
  refine bodyPost_ret (v := .agg #[.int .i64 1, .int .u32 (f1 / 2 + pickI at_ 3), .slice A2 n2 c2, .slice A3 n3 c3, .slice A4 n4 c4]) (by simp [results, Tryd.results71, go_sem, r0, r1, r2, r3, r4]) rfl ⟨rfl, ?_⟩
  refine below_drew ?_
  repeat (first | (with_reducible exact hw2) | (refine Below.setCell ?_ (by simp) _))
end Go.Proofs.YtfaelejeihmgcaaDoor.Lgx
end

section
namespace Go.Proofs.YtfaelejeihmgcaaDoor.Lgx
open Go.RowKit Go.Proofs.YtfaelejeihmgcaaDoorW.PrintWords Go.Proofs.YtfaelejeihmgcaaDoorW.PrintLast
theorem nil_own2 {g : Nat} : some g ≠ (Value.slice none 0 0).ownBlock := by simp [Value.ownBlock]
theorem size9 : (Tryd.prog.info? 9).map (·.size) = some 1 := by kernel_rfl
theorem size39 : (Tryd.prog.info? 39).map (·.size) = some 1 := by kernel_rfl
theorem size98' : (Tryd.prog.info? 98).map (·.size) = some 4 := by kernel_rfl
theorem size4 : (Tryd.prog.info? 4).map (·.size) = some 1 := by kernel_rfl
/-- one thing of an answer turned -/
def turn1 (x : S98) (q how : Int) : S98 :=
  if q = 0 then ⟨x.f0, !x.f1, x.f2, x.f3⟩ else if q = 1 then ⟨x.f0, x.f1, x.f2 ++ ⟨#[120]⟩, x.f3⟩ else if q = 2 then ⟨x.f0, x.f1, x.f2, IntKind.u32.wrap (x.f3 + 1)⟩
  else if q = 3 then ⟨nameAt (pickI (wrap64 (Int.tdiv how 5)) 12), x.f1, x.f2, x.f3⟩ else ⟨x.f0, false, ⟨#[]⟩, 0⟩
def turnedA (l : List S98) (at_ how : Int) : List S98 := l.set (pickI at_ l.length).toNat (turn1 (rd_T98 l (pickI at_ l.length)) (pickI how 5) how)
theorem turn1_0 (x : S98) (how : Int) : turn1 x 0 how = ⟨x.f0, !x.f1, x.f2, x.f3⟩ := rfl
theorem turn1_1 (x : S98) (how : Int) : turn1 x 1 how = ⟨x.f0, x.f1, x.f2 ++ ⟨#[120]⟩, x.f3⟩ := rfl
theorem turn1_2 (x : S98) (how : Int) : turn1 x 2 how = ⟨x.f0, x.f1, x.f2, IntKind.u32.wrap (x.f3 + 1)⟩ := rfl
theorem turn1_3 (x : S98) (how : Int) : turn1 x 3 how = ⟨nameAt (pickI (wrap64 (Int.tdiv how 5)) 12), x.f1, x.f2, x.f3⟩ := rfl
theorem turn1_4 (x : S98) (how : Int) : turn1 x 4 how = ⟨x.f0, false, ⟨#[]⟩, 0⟩ := rfl
set_option maxHeartbeats 16000000 in
set_option maxRecDepth 100000 in
theorem turned_some0 (f0 f1 : Int) (A2 : Option Addr) (n2 c2 : Nat) (A3 : Option Addr) (c3 : Nat) (l3 : List S98) (A4 : Option Addr) (n4 c4 : Nat) (at_ how : Int) (w : World) (hf : ¬ f0 = 1) (hn : 0 < l3.length) (hl3 : l3.length ≤ 1048576)
    (hC3 : Kd.C k98 w A3 l3.length l3) (hs3 : ∀ x ∈ l3, x.f2.size ≤ 1099511627776) (hu3 : ∀ x ∈ l3, 0 ≤ x.f3 ∧ x.f3 ≤ 4294967295) (hq : pickI how 5 = 0) :
    Calls Tryd.prog 71 #[.agg #[.int .i64 f0, .int .u32 f1, .slice A2 n2 c2, .slice A3 l3.length c3, .slice A4 n4 c4], .int .i64 at_, .int .i64 how] w fun e w' =>
      ∃ v3, e = .returned (.agg #[.int .i64 f0, .int .u32 f1, .slice A2 n2 c2, v3, .slice A4 n4 c4]) ∧ Kd.R k98 98 w' w.heap.size (fun _ => True) v3 (turnedA l3 at_ how) ∧ Below w.heap.size w w' := by
  have t1 : (f0 == 1) = false := beq_eq_false_iff_ne.2 hf
  have t2 : ((l3.length : Int) == 0) = false := beq_eq_false_iff_ne.2 (by omega)
  have hne : ¬ l3.length = 0 := by omega
  have hb1 := heap_alloc_new w (.cells #[.int .i64 f0, .int .u32 f1, .slice A2 n2 c2, .slice A3 l3.length c3, .slice A4 n4 c4] 43)
  have hw1 := below_alloc (Below.refl _ w) (.cells #[.int .i64 f0, .int .u32 f1, .slice A2 n2 c2, .slice A3 l3.length c3, .slice A4 n4 c4] 43)
  have hz1 : (w.alloc (.cells #[.int .i64 f0, .int .u32 f1, .slice A2 n2 c2, .slice A3 l3.length c3, .slice A4 n4 c4] 43)).heap.size = w.heap.size + 1 := by simp
  go_enter Tryd.func71, Tryd.ntmps71
  go_upto_region 1 with (fail)
  generalize w.alloc (.cells #[.int .i64 f0, .int .u32 f1, .slice A2 n2 c2, .slice A3 l3.length c3, .slice A4 n4 c4] 43) = w1 at hb1 hw1 hz1 ⊢
  have hb2 := heap_alloc_new w1 (.cells #[.int .i64 0, .int .u32 0, .slice none 0 0, .slice none 0 0, .slice none 0 0] 43)
  rw [hz1] at hb2
  have hb1' : (w1.alloc (.cells #[.int .i64 0, .int .u32 0, .slice none 0 0, .slice none 0 0, .slice none 0 0] 43)).heap[w.heap.size]? = some (.cells #[.int .i64 f0, .int .u32 f1, .slice A2 n2 c2, .slice A3 l3.length c3, .slice A4 n4 c4] 43) := by
    rw [Lib.alloc_old w1 _ _ (by omega)]; exact hb1
  have hw2 := below_alloc hw1 (.cells #[.int .i64 0, .int .u32 0, .slice none 0 0, .slice none 0 0, .slice none 0 0] 43)
  generalize w1.alloc (.cells #[.int .i64 0, .int .u32 0, .slice none 0 0, .slice none 0 0, .slice none 0 0] 43) = w2 at hb2 hb1' hw2 ⊢
  clear hb1 hw1 hz1
  have y0 : w2.cell? ⟨w.heap.size, 0, none⟩ = some (.int .i64 f0) := Lib.cell_of_heap hb1' 0
  have y1 : w2.cell? ⟨w.heap.size, 1, none⟩ = some (.int .u32 f1) := Lib.cell_of_heap hb1' 1
  have y2 : w2.cell? ⟨w.heap.size, 2, none⟩ = some (.slice A2 n2 c2) := Lib.cell_of_heap hb1' 2
  have y3 : w2.cell? ⟨w.heap.size, 3, none⟩ = some (.slice A3 l3.length c3) := Lib.cell_of_heap hb1' 3
  have y4 : w2.cell? ⟨w.heap.size, 4, none⟩ = some (.slice A4 n4 c4) := Lib.cell_of_heap hb1' 4
  have r0 : w2.cell? ⟨w.heap.size + 1, 0, none⟩ = some (.int .i64 0) := Lib.cell_of_heap hb2 0
  have r1 : w2.cell? ⟨w.heap.size + 1, 1, none⟩ = some (.int .u32 0) := Lib.cell_of_heap hb2 1
  have r2 : w2.cell? ⟨w.heap.size + 1, 2, none⟩ = some (.slice none 0 0) := Lib.cell_of_heap hb2 2
  have r3 : w2.cell? ⟨w.heap.size + 1, 3, none⟩ = some (.slice none 0 0) := Lib.cell_of_heap hb2 3
  have r4 : w2.cell? ⟨w.heap.size + 1, 4, none⟩ = some (.slice none 0 0) := Lib.cell_of_heap hb2 4
  have fr0 : w2.frozen? ⟨w.heap.size + 1, 0, none⟩ = false := Lib.frozen_of_heap hb2 0
  have fr1 : w2.frozen? ⟨w.heap.size + 1, 1, none⟩ = false := Lib.frozen_of_heap hb2 1
  have fr2 : w2.frozen? ⟨w.heap.size + 1, 2, none⟩ = false := Lib.frozen_of_heap hb2 2
  have fr3 : w2.frozen? ⟨w.heap.size + 1, 3, none⟩ = false := Lib.frozen_of_heap hb2 3
  have fr4 : w2.frozen? ⟨w.heap.size + 1, 4, none⟩ = false := Lib.frozen_of_heap hb2 4
  have fy1 : w2.frozen? ⟨w.heap.size, 1, none⟩ = false := Lib.frozen_of_heap hb1' 1
  have hCw : Kd.C k98 w2 A3 l3.length l3 := Kd.C_below hC3 hw2
  have hT1 : ReadsRow (k98.K w2) 4 w2 A3 l3.length l3 := hCw
  have hKM : ∀ (W : World) (x : S98) (cs : List Value), k98.K w2 x cs → k98.M W w.heap.size (fun _ => False) x cs := fun W x cs hK => by rw [k98_open hK]; exact k98_mkM _ _ _ _
  go_wp2_with (at_builtin; refine Kd.R_append_rows k98 (Rr := k98.K w2) (w0 := w) w.heap.size rfl (.const (.slice none 0 0)) (.tmp 27) 41 98 (.agg #[(.string ⟨#[]⟩), (.bool false), (.string ⟨#[]⟩), (.int .u32 0)]) 48 rfl Tryd.underlying41 info98 rfl (by decide) (by decide) (.slice none 0 0) [] l3 A3 l3.length c3 (fun k => k ≠ w.heap.size ∧ k ≠ w.heap.size + 1) (fun _ => False) rfl rfl (Kd.R_nil _ _ _ _ _) hT1 (hKM _) (fun _ h => h.elim) (fun k hk => ?fr) hw2 hw2.size ?aL ?_)
  case fr => exact ⟨by have := (Array.getElem?_eq_some_iff.1 hb1').1; omega, by have := (Array.getElem?_eq_some_iff.1 hb2).1; omega⟩
  case aL => simp only [List.length_nil]; omega
  intro v1 w3 hR1 hb3 hg3 _
  obtain ⟨g, cap, ev, hgb, hgl, cells, hgc⟩ := Kd.R_form hR1 hn
  subst ev
  have hgo := hR1.1 g (by simp [Value.ownBlock])
  have b1 : w3.heap[w.heap.size]? = some (.cells #[.int .i64 f0, .int .u32 f1, .slice A2 n2 c2, .slice A3 l3.length c3, .slice A4 n4 c4] 43) := (hg3.block _ (Array.getElem?_eq_some_iff.1 hb1').1 nil_own2).trans hb1'
  have b2 : w3.heap[w.heap.size + 1]? = some (.cells #[.int .i64 0, .int .u32 0, .slice none 0 0, .slice none 0 0, .slice none 0 0] 43) := (hg3.block _ (Array.getElem?_eq_some_iff.1 hb2).1 nil_own2).trans hb2
  clear y0 y1 y2 y3 y4 r0 r1 r2 r3 r4 fr0 fr1 fr2 fr3 fr4 fy1 hb1' hb2 hT1 hKM hg3 hgc cells hCw
  obtain ⟨i, hi⟩ : ∃ i : Nat, pickI at_ l3.length = i := ⟨(pickI at_ l3.length).toNat, by have := (pickI_in at_ l3.length (by omega) (by omega)).1; omega⟩
  have hil : i < l3.length := by have := (pickI_in at_ l3.length (by omega) (by omega)).2; omega
  have hp1 := fun W => pick_same at_ l3.length (by omega) (by omega) W
  have hp2 := fun W => pick_same how 5 (by decide) (by decide) W
  obtain ⟨q0, q1⟩ := pickI_in how 5 (by decide) (by decide)
  have hres : turnedA l3 at_ how = l3.set i (turn1 (rd_T98 l3 (i : Int)) (pickI how 5) how) := by unfold turnedA; rw [hi]; rfl
  rw [hi] at hp1
  obtain ⟨c, hcl, hcM, hcc, hcf⟩ := Kd.R_elem hR1 z98 (i : Int) (by omega) (by omega)
  obtain rfl := k98_openM hcM
  rw [show l3.getD ((i : Int).toNat) z98 = rd_T98 l3 (i : Int) from rfl] at hcM hcc
  rw [rd98 hil] at hcM hcc hres
  have hx2 := hs3 _ (List.getElem_mem hil)
  have hx3 := hu3 _ (List.getElem_mem hil)
  obtain ⟨x, hx⟩ : ∃ x, x = l3[i] := ⟨_, rfl⟩
  rw [← hx] at hcM hcc hx2 hx3 hres
  rw [hq] at hp2 q0 q1 hres
  have Hres := Lib.hid hres
  clear hx hq hres hi hcM
  obtain ⟨xk, xi, xv, xf⟩ := x
  have e0 : w3.cell? ⟨g, i * 4, none⟩ = some (.string xk) := hcc 0 _ rfl
  have e1 : w3.cell? ⟨g, i * 4 + 1, none⟩ = some (.bool xi) := hcc 1 _ rfl
  have e2 : w3.cell? ⟨g, i * 4 + 2, none⟩ = some (.string xv) := hcc 2 _ rfl
  have e3 : w3.cell? ⟨g, i * 4 + 3, none⟩ = some (.int .u32 xf) := hcc 3 _ rfl
  have Hcc := Lib.hid hcc
  clear hcc hcf
  go_wp2_with fail
  refine (hp1 _).mono ?_
  rintro e w4 ⟨rfl, rfl⟩
  go_wp2_with fail
  refine (hp2 _).mono ?_
  rintro e w5 ⟨rfl, rfl⟩
  go_wp2_with ((with_reducible refine gate_ (.store 4 (.tmp 53) (.tmp 51)) rfl ?_); refine Kd.R_store k98 (w0 := w) w.heap.size rfl rfl 4 (.tmp 53) (.tmp 51) rfl 98 (i : Int) 1 l3 ⟨xk, !xi, xv, xf⟩ (.bool !xi) [.bool !xi] [.string xk, .bool xi, .string xv, .int .u32 xf] (fun k => ¬k = w.heap.size ∧ ¬k = w.heap.size + 1) (fun _ => False) rfl rfl rfl rfl size4 (by simp [Value.oneCell']) hR1 (by omega) (by omega) rfl Hcc.out (Nat.le_of_ble_eq_true rfl) (k98_mkM _ _ _ ⟨xk, !xi, xv, xf⟩) (fun _ h => h.elim) hb3 ?_)
  intro w6 hR6 hb6 hg6
  have hl1 : w.heap.size < (w5).heap.size := by have := (Array.getElem?_eq_some_iff.1 b1).1; omega
  have d1 := (hg6.block _ (Array.getElem?_eq_some_iff.1 b1).1 (fun e => hgo.1 (Option.some.inj e).symm)).trans b1
  have d2 := (hg6.block _ (Array.getElem?_eq_some_iff.1 b2).1 (fun e => hgo.2 (Option.some.inj e).symm)).trans b2
  have y0 : w6.cell? ⟨w.heap.size, 0, none⟩ = some (.int .i64 f0) := Lib.cell_of_heap d1 0
  have y1 : w6.cell? ⟨w.heap.size, 1, none⟩ = some (.int .u32 f1) := Lib.cell_of_heap d1 1
  have y2 : w6.cell? ⟨w.heap.size, 2, none⟩ = some (.slice A2 n2 c2) := Lib.cell_of_heap d1 2
  have y3 : w6.cell? ⟨w.heap.size, 3, none⟩ = some (.slice A3 l3.length c3) := Lib.cell_of_heap d1 3
  have y4 : w6.cell? ⟨w.heap.size, 4, none⟩ = some (.slice A4 n4 c4) := Lib.cell_of_heap d1 4
  have fy3 : w6.frozen? ⟨w.heap.size, 3, none⟩ = false := Lib.frozen_of_heap d1 3
  have r0 : w6.cell? ⟨w.heap.size + 1, 0, none⟩ = some (.int .i64 0) := Lib.cell_of_heap d2 0
  have r1 : w6.cell? ⟨w.heap.size + 1, 1, none⟩ = some (.int .u32 0) := Lib.cell_of_heap d2 1
  have r2 : w6.cell? ⟨w.heap.size + 1, 2, none⟩ = some (.slice none 0 0) := Lib.cell_of_heap d2 2
  have r3 : w6.cell? ⟨w.heap.size + 1, 3, none⟩ = some (.slice none 0 0) := Lib.cell_of_heap d2 3
  have r4 : w6.cell? ⟨w.heap.size + 1, 4, none⟩ = some (.slice none 0 0) := Lib.cell_of_heap d2 4
  have fr0 : w6.frozen? ⟨w.heap.size + 1, 0, none⟩ = false := Lib.frozen_of_heap d2 0
  have fr1 : w6.frozen? ⟨w.heap.size + 1, 1, none⟩ = false := Lib.frozen_of_heap d2 1
  have fr2 : w6.frozen? ⟨w.heap.size + 1, 2, none⟩ = false := Lib.frozen_of_heap d2 2
  have fr3 : w6.frozen? ⟨w.heap.size + 1, 3, none⟩ = false := Lib.frozen_of_heap d2 3
  have fr4 : w6.frozen? ⟨w.heap.size + 1, 4, none⟩ = false := Lib.frozen_of_heap d2 4
  have hfin : l3.set i ⟨xk, !xi, xv, xf⟩ = turnedA l3 at_ how := by rw [Hres.out]; exact congrArg _ (turn1_0 ⟨xk, xi, xv, xf⟩ how).symm
  rw [show (i : Int).toNat = i from rfl, hfin] at hR6
  clear hfin d1 d2 hg6 hl1
  go_wp2
  refine bodyPost_ret (v := .agg #[.int .i64 f0, .int .u32 f1, .slice A2 n2 c2, .slice (some ⟨g, 0, none⟩) l3.length cap, .slice A4 n4 c4]) (by simp [results, Tryd.results71, go_sem, r0, r1, r2, r3, r4]) rfl ⟨_, rfl, ?_, ?_⟩
  · refine Kd.R_mono (ok := fun k => ¬k = w.heap.size ∧ ¬k = w.heap.size + 1) ?_ (fun _ _ => trivial)
    repeat (first | (with_reducible exact hR6) | (refine Kd.R_far ?_ (fun k hk => by first | exact hk.1 | exact hk.2) _))
  · repeat (first | (with_reducible exact hb6) | (refine Below.setCell ?_ (by simp) _))
set_option maxHeartbeats 16000000 in
set_option maxRecDepth 100000 in
theorem turned_some1 (f0 f1 : Int) (A2 : Option Addr) (n2 c2 : Nat) (A3 : Option Addr) (c3 : Nat) (l3 : List S98) (A4 : Option Addr) (n4 c4 : Nat) (at_ how : Int) (w : World) (hf : ¬ f0 = 1) (hn : 0 < l3.length) (hl3 : l3.length ≤ 1048576)
    (hC3 : Kd.C k98 w A3 l3.length l3) (hs3 : ∀ x ∈ l3, x.f2.size ≤ 1099511627776) (hu3 : ∀ x ∈ l3, 0 ≤ x.f3 ∧ x.f3 ≤ 4294967295) (hq : pickI how 5 = 1) :
    Calls Tryd.prog 71 #[.agg #[.int .i64 f0, .int .u32 f1, .slice A2 n2 c2, .slice A3 l3.length c3, .slice A4 n4 c4], .int .i64 at_, .int .i64 how] w fun e w' =>
      ∃ v3, e = .returned (.agg #[.int .i64 f0, .int .u32 f1, .slice A2 n2 c2, v3, .slice A4 n4 c4]) ∧ Kd.R k98 98 w' w.heap.size (fun _ => True) v3 (turnedA l3 at_ how) ∧ Below w.heap.size w w' := by
  have t1 : (f0 == 1) = false := beq_eq_false_iff_ne.2 hf
  have t2 : ((l3.length : Int) == 0) = false := beq_eq_false_iff_ne.2 (by omega)
  have hne : ¬ l3.length = 0 := by omega
  have hb1 := heap_alloc_new w (.cells #[.int .i64 f0, .int .u32 f1, .slice A2 n2 c2, .slice A3 l3.length c3, .slice A4 n4 c4] 43)
  have hw1 := below_alloc (Below.refl _ w) (.cells #[.int .i64 f0, .int .u32 f1, .slice A2 n2 c2, .slice A3 l3.length c3, .slice A4 n4 c4] 43)
  have hz1 : (w.alloc (.cells #[.int .i64 f0, .int .u32 f1, .slice A2 n2 c2, .slice A3 l3.length c3, .slice A4 n4 c4] 43)).heap.size = w.heap.size + 1 := by simp
  go_enter Tryd.func71, Tryd.ntmps71
  go_upto_region 1 with (fail)
  generalize w.alloc (.cells #[.int .i64 f0, .int .u32 f1, .slice A2 n2 c2, .slice A3 l3.length c3, .slice A4 n4 c4] 43) = w1 at hb1 hw1 hz1 ⊢
  have hb2 := heap_alloc_new w1 (.cells #[.int .i64 0, .int .u32 0, .slice none 0 0, .slice none 0 0, .slice none 0 0] 43)
  rw [hz1] at hb2
  have hb1' : (w1.alloc (.cells #[.int .i64 0, .int .u32 0, .slice none 0 0, .slice none 0 0, .slice none 0 0] 43)).heap[w.heap.size]? = some (.cells #[.int .i64 f0, .int .u32 f1, .slice A2 n2 c2, .slice A3 l3.length c3, .slice A4 n4 c4] 43) := by
    rw [Lib.alloc_old w1 _ _ (by omega)]; exact hb1
  have hw2 := below_alloc hw1 (.cells #[.int .i64 0, .int .u32 0, .slice none 0 0, .slice none 0 0, .slice none 0 0] 43)
  generalize w1.alloc (.cells #[.int .i64 0, .int .u32 0, .slice none 0 0, .slice none 0 0, .slice none 0 0] 43) = w2 at hb2 hb1' hw2 ⊢
  clear hb1 hw1 hz1
  have y0 : w2.cell? ⟨w.heap.size, 0, none⟩ = some (.int .i64 f0) := Lib.cell_of_heap hb1' 0
  have y1 : w2.cell? ⟨w.heap.size, 1, none⟩ = some (.int .u32 f1) := Lib.cell_of_heap hb1' 1
  have y2 : w2.cell? ⟨w.heap.size, 2, none⟩ = some (.slice A2 n2 c2) := Lib.cell_of_heap hb1' 2
  have y3 : w2.cell? ⟨w.heap.size, 3, none⟩ = some (.slice A3 l3.length c3) := Lib.cell_of_heap hb1' 3
  have y4 : w2.cell? ⟨w.heap.size, 4, none⟩ = some (.slice A4 n4 c4) := Lib.cell_of_heap hb1' 4
  have r0 : w2.cell? ⟨w.heap.size + 1, 0, none⟩ = some (.int .i64 0) := Lib.cell_of_heap hb2 0
  have r1 : w2.cell? ⟨w.heap.size + 1, 1, none⟩ = some (.int .u32 0) := Lib.cell_of_heap hb2 1
  have r2 : w2.cell? ⟨w.heap.size + 1, 2, none⟩ = some (.slice none 0 0) := Lib.cell_of_heap hb2 2
  have r3 : w2.cell? ⟨w.heap.size + 1, 3, none⟩ = some (.slice none 0 0) := Lib.cell_of_heap hb2 3
  have r4 : w2.cell? ⟨w.heap.size + 1, 4, none⟩ = some (.slice none 0 0) := Lib.cell_of_heap hb2 4
  have fr0 : w2.frozen? ⟨w.heap.size + 1, 0, none⟩ = false := Lib.frozen_of_heap hb2 0
  have fr1 : w2.frozen? ⟨w.heap.size + 1, 1, none⟩ = false := Lib.frozen_of_heap hb2 1
  have fr2 : w2.frozen? ⟨w.heap.size + 1, 2, none⟩ = false := Lib.frozen_of_heap hb2 2
  have fr3 : w2.frozen? ⟨w.heap.size + 1, 3, none⟩ = false := Lib.frozen_of_heap hb2 3
  have fr4 : w2.frozen? ⟨w.heap.size + 1, 4, none⟩ = false := Lib.frozen_of_heap hb2 4
  have fy1 : w2.frozen? ⟨w.heap.size, 1, none⟩ = false := Lib.frozen_of_heap hb1' 1
  have hCw : Kd.C k98 w2 A3 l3.length l3 := Kd.C_below hC3 hw2
  have hT1 : ReadsRow (k98.K w2) 4 w2 A3 l3.length l3 := hCw
  have hKM : ∀ (W : World) (x : S98) (cs : List Value), k98.K w2 x cs → k98.M W w.heap.size (fun _ => False) x cs := fun W x cs hK => by rw [k98_open hK]; exact k98_mkM _ _ _ _
  go_wp2_with (at_builtin; refine Kd.R_append_rows k98 (Rr := k98.K w2) (w0 := w) w.heap.size rfl (.const (.slice none 0 0)) (.tmp 27) 41 98 (.agg #[(.string ⟨#[]⟩), (.bool false), (.string ⟨#[]⟩), (.int .u32 0)]) 48 rfl Tryd.underlying41 info98 rfl (by decide) (by decide) (.slice none 0 0) [] l3 A3 l3.length c3 (fun k => k ≠ w.heap.size ∧ k ≠ w.heap.size + 1) (fun _ => False) rfl rfl (Kd.R_nil _ _ _ _ _) hT1 (hKM _) (fun _ h => h.elim) (fun k hk => ?fr) hw2 hw2.size ?aL ?_)
  case fr => exact ⟨by have := (Array.getElem?_eq_some_iff.1 hb1').1; omega, by have := (Array.getElem?_eq_some_iff.1 hb2).1; omega⟩
  case aL => simp only [List.length_nil]; omega
  intro v1 w3 hR1 hb3 hg3 _
  obtain ⟨g, cap, ev, hgb, hgl, cells, hgc⟩ := Kd.R_form hR1 hn
  subst ev
  have hgo := hR1.1 g (by simp [Value.ownBlock])
  have b1 : w3.heap[w.heap.size]? = some (.cells #[.int .i64 f0, .int .u32 f1, .slice A2 n2 c2, .slice A3 l3.length c3, .slice A4 n4 c4] 43) := (hg3.block _ (Array.getElem?_eq_some_iff.1 hb1').1 nil_own2).trans hb1'
  have b2 : w3.heap[w.heap.size + 1]? = some (.cells #[.int .i64 0, .int .u32 0, .slice none 0 0, .slice none 0 0, .slice none 0 0] 43) := (hg3.block _ (Array.getElem?_eq_some_iff.1 hb2).1 nil_own2).trans hb2
  clear y0 y1 y2 y3 y4 r0 r1 r2 r3 r4 fr0 fr1 fr2 fr3 fr4 fy1 hb1' hb2 hT1 hKM hg3 hgc cells hCw
  obtain ⟨i, hi⟩ : ∃ i : Nat, pickI at_ l3.length = i := ⟨(pickI at_ l3.length).toNat, by have := (pickI_in at_ l3.length (by omega) (by omega)).1; omega⟩
  have hil : i < l3.length := by have := (pickI_in at_ l3.length (by omega) (by omega)).2; omega
  have hp1 := fun W => pick_same at_ l3.length (by omega) (by omega) W
  have hp2 := fun W => pick_same how 5 (by decide) (by decide) W
  obtain ⟨q0, q1⟩ := pickI_in how 5 (by decide) (by decide)
  have hres : turnedA l3 at_ how = l3.set i (turn1 (rd_T98 l3 (i : Int)) (pickI how 5) how) := by unfold turnedA; rw [hi]; rfl
  rw [hi] at hp1
  obtain ⟨c, hcl, hcM, hcc, hcf⟩ := Kd.R_elem hR1 z98 (i : Int) (by omega) (by omega)
  obtain rfl := k98_openM hcM
  rw [show l3.getD ((i : Int).toNat) z98 = rd_T98 l3 (i : Int) from rfl] at hcM hcc
  rw [rd98 hil] at hcM hcc hres
  have hx2 := hs3 _ (List.getElem_mem hil)
  have hx3 := hu3 _ (List.getElem_mem hil)
  obtain ⟨x, hx⟩ : ∃ x, x = l3[i] := ⟨_, rfl⟩
  rw [← hx] at hcM hcc hx2 hx3 hres
  rw [hq] at hp2 q0 q1 hres
  have Hres := Lib.hid hres
  clear hx hq hres hi hcM
  obtain ⟨xk, xi, xv, xf⟩ := x
  have e0 : w3.cell? ⟨g, i * 4, none⟩ = some (.string xk) := hcc 0 _ rfl
  have e1 : w3.cell? ⟨g, i * 4 + 1, none⟩ = some (.bool xi) := hcc 1 _ rfl
  have e2 : w3.cell? ⟨g, i * 4 + 2, none⟩ = some (.string xv) := hcc 2 _ rfl
  have e3 : w3.cell? ⟨g, i * 4 + 3, none⟩ = some (.int .u32 xf) := hcc 3 _ rfl
  have Hcc := Lib.hid hcc
  clear hcc hcf
  go_wp2_with fail
  refine (hp1 _).mono ?_
  rintro e w4 ⟨rfl, rfl⟩
  go_wp2_with fail
  refine (hp2 _).mono ?_
  rintro e w5 ⟨rfl, rfl⟩
  have hcat : ¬ 9223372036854775807 < xv.size + 1 := by omega
  go_wp2_with ((with_reducible refine gate_ (.store 9 (.tmp 62) (.tmp 60)) rfl ?_); refine Kd.R_store k98 (w0 := w) w.heap.size rfl rfl 9 (.tmp 62) (.tmp 60) rfl 98 (i : Int) 2 l3 ⟨xk, xi, xv ++ ⟨#[120]⟩, xf⟩ (.string (xv ++ ⟨#[120]⟩)) [.string (xv ++ ⟨#[120]⟩)] [.string xk, .bool xi, .string xv, .int .u32 xf] (fun k => ¬k = w.heap.size ∧ ¬k = w.heap.size + 1) (fun _ => False) rfl rfl rfl rfl size9 (by simp [Value.oneCell']) hR1 (by omega) (by omega) rfl Hcc.out (Nat.le_of_ble_eq_true rfl) (k98_mkM _ _ _ ⟨xk, xi, xv ++ ⟨#[120]⟩, xf⟩) (fun _ h => h.elim) hb3 ?_)
  intro w6 hR6 hb6 hg6
  have hl1 : w.heap.size < (w5).heap.size := by have := (Array.getElem?_eq_some_iff.1 b1).1; omega
  have d1 := (hg6.block _ (Array.getElem?_eq_some_iff.1 b1).1 (fun e => hgo.1 (Option.some.inj e).symm)).trans b1
  have d2 := (hg6.block _ (Array.getElem?_eq_some_iff.1 b2).1 (fun e => hgo.2 (Option.some.inj e).symm)).trans b2
  have y0 : w6.cell? ⟨w.heap.size, 0, none⟩ = some (.int .i64 f0) := Lib.cell_of_heap d1 0
  have y1 : w6.cell? ⟨w.heap.size, 1, none⟩ = some (.int .u32 f1) := Lib.cell_of_heap d1 1
  have y2 : w6.cell? ⟨w.heap.size, 2, none⟩ = some (.slice A2 n2 c2) := Lib.cell_of_heap d1 2
  have y3 : w6.cell? ⟨w.heap.size, 3, none⟩ = some (.slice A3 l3.length c3) := Lib.cell_of_heap d1 3
  have y4 : w6.cell? ⟨w.heap.size, 4, none⟩ = some (.slice A4 n4 c4) := Lib.cell_of_heap d1 4
  have fy3 : w6.frozen? ⟨w.heap.size, 3, none⟩ = false := Lib.frozen_of_heap d1 3
  have r0 : w6.cell? ⟨w.heap.size + 1, 0, none⟩ = some (.int .i64 0) := Lib.cell_of_heap d2 0
  have r1 : w6.cell? ⟨w.heap.size + 1, 1, none⟩ = some (.int .u32 0) := Lib.cell_of_heap d2 1
  have r2 : w6.cell? ⟨w.heap.size + 1, 2, none⟩ = some (.slice none 0 0) := Lib.cell_of_heap d2 2
  have r3 : w6.cell? ⟨w.heap.size + 1, 3, none⟩ = some (.slice none 0 0) := Lib.cell_of_heap d2 3
  have r4 : w6.cell? ⟨w.heap.size + 1, 4, none⟩ = some (.slice none 0 0) := Lib.cell_of_heap d2 4
  have fr0 : w6.frozen? ⟨w.heap.size + 1, 0, none⟩ = false := Lib.frozen_of_heap d2 0
  have fr1 : w6.frozen? ⟨w.heap.size + 1, 1, none⟩ = false := Lib.frozen_of_heap d2 1
  have fr2 : w6.frozen? ⟨w.heap.size + 1, 2, none⟩ = false := Lib.frozen_of_heap d2 2
  have fr3 : w6.frozen? ⟨w.heap.size + 1, 3, none⟩ = false := Lib.frozen_of_heap d2 3
  have fr4 : w6.frozen? ⟨w.heap.size + 1, 4, none⟩ = false := Lib.frozen_of_heap d2 4
  have hfin : l3.set i ⟨xk, xi, xv ++ ⟨#[120]⟩, xf⟩ = turnedA l3 at_ how := by rw [Hres.out]; exact congrArg _ (turn1_1 ⟨xk, xi, xv, xf⟩ how).symm
  rw [show (i : Int).toNat = i from rfl, hfin] at hR6
  clear hfin d1 d2 hg6 hl1
  go_wp2
  refine bodyPost_ret (v := .agg #[.int .i64 f0, .int .u32 f1, .slice A2 n2 c2, .slice (some ⟨g, 0, none⟩) l3.length cap, .slice A4 n4 c4]) (by simp [results, Tryd.results71, go_sem, r0, r1, r2, r3, r4]) rfl ⟨_, rfl, ?_, ?_⟩
  · refine Kd.R_mono (ok := fun k => ¬k = w.heap.size ∧ ¬k = w.heap.size + 1) ?_ (fun _ _ => trivial)
    repeat (first | (with_reducible exact hR6) | (refine Kd.R_far ?_ (fun k hk => by first | exact hk.1 | exact hk.2) _))
  · repeat (first | (with_reducible exact hb6) | (refine Below.setCell ?_ (by simp) _))
set_option maxHeartbeats 16000000 in
set_option maxRecDepth 100000 in
theorem turned_some2 (f0 f1 : Int) (A2 : Option Addr) (n2 c2 : Nat) (A3 : Option Addr) (c3 : Nat) (l3 : List S98) (A4 : Option Addr) (n4 c4 : Nat) (at_ how : Int) (w : World) (hf : ¬ f0 = 1) (hn : 0 < l3.length) (hl3 : l3.length ≤ 1048576)
    (hC3 : Kd.C k98 w A3 l3.length l3) (hs3 : ∀ x ∈ l3, x.f2.size ≤ 1099511627776) (hu3 : ∀ x ∈ l3, 0 ≤ x.f3 ∧ x.f3 ≤ 4294967295) (hq : pickI how 5 = 2) :
    Calls Tryd.prog 71 #[.agg #[.int .i64 f0, .int .u32 f1, .slice A2 n2 c2, .slice A3 l3.length c3, .slice A4 n4 c4], .int .i64 at_, .int .i64 how] w fun e w' =>
      ∃ v3, e = .returned (.agg #[.int .i64 f0, .int .u32 f1, .slice A2 n2 c2, v3, .slice A4 n4 c4]) ∧ Kd.R k98 98 w' w.heap.size (fun _ => True) v3 (turnedA l3 at_ how) ∧ Below w.heap.size w w' := by
  have t1 : (f0 == 1) = false := beq_eq_false_iff_ne.2 hf
  have t2 : ((l3.length : Int) == 0) = false := beq_eq_false_iff_ne.2 (by omega)
  have hne : ¬ l3.length = 0 := by omega
  have hb1 := heap_alloc_new w (.cells #[.int .i64 f0, .int .u32 f1, .slice A2 n2 c2, .slice A3 l3.length c3, .slice A4 n4 c4] 43)
  have hw1 := below_alloc (Below.refl _ w) (.cells #[.int .i64 f0, .int .u32 f1, .slice A2 n2 c2, .slice A3 l3.length c3, .slice A4 n4 c4] 43)
  have hz1 : (w.alloc (.cells #[.int .i64 f0, .int .u32 f1, .slice A2 n2 c2, .slice A3 l3.length c3, .slice A4 n4 c4] 43)).heap.size = w.heap.size + 1 := by simp
  go_enter Tryd.func71, Tryd.ntmps71
  go_upto_region 1 with (fail)
  generalize w.alloc (.cells #[.int .i64 f0, .int .u32 f1, .slice A2 n2 c2, .slice A3 l3.length c3, .slice A4 n4 c4] 43) = w1 at hb1 hw1 hz1 ⊢
  have hb2 := heap_alloc_new w1 (.cells #[.int .i64 0, .int .u32 0, .slice none 0 0, .slice none 0 0, .slice none 0 0] 43)
  rw [hz1] at hb2
  have hb1' : (w1.alloc (.cells #[.int .i64 0, .int .u32 0, .slice none 0 0, .slice none 0 0, .slice none 0 0] 43)).heap[w.heap.size]? = some (.cells #[.int .i64 f0, .int .u32 f1, .slice A2 n2 c2, .slice A3 l3.length c3, .slice A4 n4 c4] 43) := by
    rw [Lib.alloc_old w1 _ _ (by omega)]; exact hb1
  have hw2 := below_alloc hw1 (.cells #[.int .i64 0, .int .u32 0, .slice none 0 0, .slice none 0 0, .slice none 0 0] 43)
  generalize w1.alloc (.cells #[.int .i64 0, .int .u32 0, .slice none 0 0, .slice none 0 0, .slice none 0 0] 43) = w2 at hb2 hb1' hw2 ⊢
  clear hb1 hw1 hz1
  have y0 : w2.cell? ⟨w.heap.size, 0, none⟩ = some (.int .i64 f0) := Lib.cell_of_heap hb1' 0
  have y1 : w2.cell? ⟨w.heap.size, 1, none⟩ = some (.int .u32 f1) := Lib.cell_of_heap hb1' 1
  have y2 : w2.cell? ⟨w.heap.size, 2, none⟩ = some (.slice A2 n2 c2) := Lib.cell_of_heap hb1' 2
  have y3 : w2.cell? ⟨w.heap.size, 3, none⟩ = some (.slice A3 l3.length c3) := Lib.cell_of_heap hb1' 3
  have y4 : w2.cell? ⟨w.heap.size, 4, none⟩ = some (.slice A4 n4 c4) := Lib.cell_of_heap hb1' 4
  have r0 : w2.cell? ⟨w.heap.size + 1, 0, none⟩ = some (.int .i64 0) := Lib.cell_of_heap hb2 0
  have r1 : w2.cell? ⟨w.heap.size + 1, 1, none⟩ = some (.int .u32 0) := Lib.cell_of_heap hb2 1
  have r2 : w2.cell? ⟨w.heap.size + 1, 2, none⟩ = some (.slice none 0 0) := Lib.cell_of_heap hb2 2
  have r3 : w2.cell? ⟨w.heap.size + 1, 3, none⟩ = some (.slice none 0 0) := Lib.cell_of_heap hb2 3
  have r4 : w2.cell? ⟨w.heap.size + 1, 4, none⟩ = some (.slice none 0 0) := Lib.cell_of_heap hb2 4
  have fr0 : w2.frozen? ⟨w.heap.size + 1, 0, none⟩ = false := Lib.frozen_of_heap hb2 0
  have fr1 : w2.frozen? ⟨w.heap.size + 1, 1, none⟩ = false := Lib.frozen_of_heap hb2 1
  have fr2 : w2.frozen? ⟨w.heap.size + 1, 2, none⟩ = false := Lib.frozen_of_heap hb2 2
  have fr3 : w2.frozen? ⟨w.heap.size + 1, 3, none⟩ = false := Lib.frozen_of_heap hb2 3
  have fr4 : w2.frozen? ⟨w.heap.size + 1, 4, none⟩ = false := Lib.frozen_of_heap hb2 4
  have fy1 : w2.frozen? ⟨w.heap.size, 1, none⟩ = false := Lib.frozen_of_heap hb1' 1
  have hCw : Kd.C k98 w2 A3 l3.length l3 := Kd.C_below hC3 hw2
  have hT1 : ReadsRow (k98.K w2) 4 w2 A3 l3.length l3 := hCw
  have hKM : ∀ (W : World) (x : S98) (cs : List Value), k98.K w2 x cs → k98.M W w.heap.size (fun _ => False) x cs := fun W x cs hK => by rw [k98_open hK]; exact k98_mkM _ _ _ _
  go_wp2_with (at_builtin; refine Kd.R_append_rows k98 (Rr := k98.K w2) (w0 := w) w.heap.size rfl (.const (.slice none 0 0)) (.tmp 27) 41 98 (.agg #[(.string ⟨#[]⟩), (.bool false), (.string ⟨#[]⟩), (.int .u32 0)]) 48 rfl Tryd.underlying41 info98 rfl (by decide) (by decide) (.slice none 0 0) [] l3 A3 l3.length c3 (fun k => k ≠ w.heap.size ∧ k ≠ w.heap.size + 1) (fun _ => False) rfl rfl (Kd.R_nil _ _ _ _ _) hT1 (hKM _) (fun _ h => h.elim) (fun k hk => ?fr) hw2 hw2.size ?aL ?_)
  case fr => exact ⟨by have := (Array.getElem?_eq_some_iff.1 hb1').1; omega, by have := (Array.getElem?_eq_some_iff.1 hb2).1; omega⟩
  case aL => simp only [List.length_nil]; omega
  intro v1 w3 hR1 hb3 hg3 _
  obtain ⟨g, cap, ev, hgb, hgl, cells, hgc⟩ := Kd.R_form hR1 hn
  subst ev
  have hgo := hR1.1 g (by simp [Value.ownBlock])
  have b1 : w3.heap[w.heap.size]? = some (.cells #[.int .i64 f0, .int .u32 f1, .slice A2 n2 c2, .slice A3 l3.length c3, .slice A4 n4 c4] 43) := (hg3.block _ (Array.getElem?_eq_some_iff.1 hb1').1 nil_own2).trans hb1'
  have b2 : w3.heap[w.heap.size + 1]? = some (.cells #[.int .i64 0, .int .u32 0, .slice none 0 0, .slice none 0 0, .slice none 0 0] 43) := (hg3.block _ (Array.getElem?_eq_some_iff.1 hb2).1 nil_own2).trans hb2
  clear y0 y1 y2 y3 y4 r0 r1 r2 r3 r4 fr0 fr1 fr2 fr3 fr4 fy1 hb1' hb2 hT1 hKM hg3 hgc cells hCw
  obtain ⟨i, hi⟩ : ∃ i : Nat, pickI at_ l3.length = i := ⟨(pickI at_ l3.length).toNat, by have := (pickI_in at_ l3.length (by omega) (by omega)).1; omega⟩
  have hil : i < l3.length := by have := (pickI_in at_ l3.length (by omega) (by omega)).2; omega
  have hp1 := fun W => pick_same at_ l3.length (by omega) (by omega) W
  have hp2 := fun W => pick_same how 5 (by decide) (by decide) W
  obtain ⟨q0, q1⟩ := pickI_in how 5 (by decide) (by decide)
  have hres : turnedA l3 at_ how = l3.set i (turn1 (rd_T98 l3 (i : Int)) (pickI how 5) how) := by unfold turnedA; rw [hi]; rfl
  rw [hi] at hp1
  obtain ⟨c, hcl, hcM, hcc, hcf⟩ := Kd.R_elem hR1 z98 (i : Int) (by omega) (by omega)
  obtain rfl := k98_openM hcM
  rw [show l3.getD ((i : Int).toNat) z98 = rd_T98 l3 (i : Int) from rfl] at hcM hcc
  rw [rd98 hil] at hcM hcc hres
  have hx2 := hs3 _ (List.getElem_mem hil)
  have hx3 := hu3 _ (List.getElem_mem hil)
  obtain ⟨x, hx⟩ : ∃ x, x = l3[i] := ⟨_, rfl⟩
  rw [← hx] at hcM hcc hx2 hx3 hres
  rw [hq] at hp2 q0 q1 hres
  have Hres := Lib.hid hres
  clear hx hq hres hi hcM
  obtain ⟨xk, xi, xv, xf⟩ := x
  have e0 : w3.cell? ⟨g, i * 4, none⟩ = some (.string xk) := hcc 0 _ rfl
  have e1 : w3.cell? ⟨g, i * 4 + 1, none⟩ = some (.bool xi) := hcc 1 _ rfl
  have e2 : w3.cell? ⟨g, i * 4 + 2, none⟩ = some (.string xv) := hcc 2 _ rfl
  have e3 : w3.cell? ⟨g, i * 4 + 3, none⟩ = some (.int .u32 xf) := hcc 3 _ rfl
  have Hcc := Lib.hid hcc
  clear hcc hcf
  go_wp2_with fail
  refine (hp1 _).mono ?_
  rintro e w4 ⟨rfl, rfl⟩
  go_wp2_with fail
  refine (hp2 _).mono ?_
  rintro e w5 ⟨rfl, rfl⟩
  go_wp2_with ((with_reducible refine gate_ (.store 39 (.tmp 71) (.tmp 69)) rfl ?_); refine Kd.R_store k98 (w0 := w) w.heap.size rfl rfl 39 (.tmp 71) (.tmp 69) rfl 98 (i : Int) 3 l3 ⟨xk, xi, xv, IntKind.u32.wrap (xf + 1)⟩ (.int .u32 (IntKind.u32.wrap (xf + 1))) [.int .u32 (IntKind.u32.wrap (xf + 1))] [.string xk, .bool xi, .string xv, .int .u32 xf] (fun k => ¬k = w.heap.size ∧ ¬k = w.heap.size + 1) (fun _ => False) rfl rfl rfl rfl size39 (by simp [Value.oneCell']) hR1 (by omega) (by omega) rfl Hcc.out (Nat.le_of_ble_eq_true rfl) (k98_mkM _ _ _ ⟨xk, xi, xv, IntKind.u32.wrap (xf + 1)⟩) (fun _ h => h.elim) hb3 ?_)
  intro w6 hR6 hb6 hg6
  have hl1 : w.heap.size < (w5).heap.size := by have := (Array.getElem?_eq_some_iff.1 b1).1; omega
  have d1 := (hg6.block _ (Array.getElem?_eq_some_iff.1 b1).1 (fun e => hgo.1 (Option.some.inj e).symm)).trans b1
  have d2 := (hg6.block _ (Array.getElem?_eq_some_iff.1 b2).1 (fun e => hgo.2 (Option.some.inj e).symm)).trans b2
  have y0 : w6.cell? ⟨w.heap.size, 0, none⟩ = some (.int .i64 f0) := Lib.cell_of_heap d1 0
  have y1 : w6.cell? ⟨w.heap.size, 1, none⟩ = some (.int .u32 f1) := Lib.cell_of_heap d1 1
  have y2 : w6.cell? ⟨w.heap.size, 2, none⟩ = some (.slice A2 n2 c2) := Lib.cell_of_heap d1 2
  have y3 : w6.cell? ⟨w.heap.size, 3, none⟩ = some (.slice A3 l3.length c3) := Lib.cell_of_heap d1 3
  have y4 : w6.cell? ⟨w.heap.size, 4, none⟩ = some (.slice A4 n4 c4) := Lib.cell_of_heap d1 4
  have fy3 : w6.frozen? ⟨w.heap.size, 3, none⟩ = false := Lib.frozen_of_heap d1 3
  have r0 : w6.cell? ⟨w.heap.size + 1, 0, none⟩ = some (.int .i64 0) := Lib.cell_of_heap d2 0
  have r1 : w6.cell? ⟨w.heap.size + 1, 1, none⟩ = some (.int .u32 0) := Lib.cell_of_heap d2 1
  have r2 : w6.cell? ⟨w.heap.size + 1, 2, none⟩ = some (.slice none 0 0) := Lib.cell_of_heap d2 2
  have r3 : w6.cell? ⟨w.heap.size + 1, 3, none⟩ = some (.slice none 0 0) := Lib.cell_of_heap d2 3
  have r4 : w6.cell? ⟨w.heap.size + 1, 4, none⟩ = some (.slice none 0 0) := Lib.cell_of_heap d2 4
  have fr0 : w6.frozen? ⟨w.heap.size + 1, 0, none⟩ = false := Lib.frozen_of_heap d2 0
  have fr1 : w6.frozen? ⟨w.heap.size + 1, 1, none⟩ = false := Lib.frozen_of_heap d2 1
  have fr2 : w6.frozen? ⟨w.heap.size + 1, 2, none⟩ = false := Lib.frozen_of_heap d2 2
  have fr3 : w6.frozen? ⟨w.heap.size + 1, 3, none⟩ = false := Lib.frozen_of_heap d2 3
  have fr4 : w6.frozen? ⟨w.heap.size + 1, 4, none⟩ = false := Lib.frozen_of_heap d2 4
  have hfin : l3.set i ⟨xk, xi, xv, IntKind.u32.wrap (xf + 1)⟩ = turnedA l3 at_ how := by rw [Hres.out]; exact congrArg _ (turn1_2 ⟨xk, xi, xv, xf⟩ how).symm
  rw [show (i : Int).toNat = i from rfl, hfin] at hR6
  clear hfin d1 d2 hg6 hl1
  go_wp2
  refine bodyPost_ret (v := .agg #[.int .i64 f0, .int .u32 f1, .slice A2 n2 c2, .slice (some ⟨g, 0, none⟩) l3.length cap, .slice A4 n4 c4]) (by simp [results, Tryd.results71, go_sem, r0, r1, r2, r3, r4]) rfl ⟨_, rfl, ?_, ?_⟩
  · refine Kd.R_mono (ok := fun k => ¬k = w.heap.size ∧ ¬k = w.heap.size + 1) ?_ (fun _ _ => trivial)
    repeat (first | (with_reducible exact hR6) | (refine Kd.R_far ?_ (fun k hk => by first | exact hk.1 | exact hk.2) _))
  · repeat (first | (with_reducible exact hb6) | (refine Below.setCell ?_ (by simp) _))
set_option maxHeartbeats 16000000 in
set_option maxRecDepth 100000 in
theorem turned_some3 (f0 f1 : Int) (A2 : Option Addr) (n2 c2 : Nat) (A3 : Option Addr) (c3 : Nat) (l3 : List S98) (A4 : Option Addr) (n4 c4 : Nat) (at_ how : Int) (w : World) (hf : ¬ f0 = 1) (hn : 0 < l3.length) (hl3 : l3.length ≤ 1048576)
    (hC3 : Kd.C k98 w A3 l3.length l3) (hs3 : ∀ x ∈ l3, x.f2.size ≤ 1099511627776) (hu3 : ∀ x ∈ l3, 0 ≤ x.f3 ∧ x.f3 ≤ 4294967295) (hT : Tabs w) (hq : pickI how 5 = 3) :
    Calls Tryd.prog 71 #[.agg #[.int .i64 f0, .int .u32 f1, .slice A2 n2 c2, .slice A3 l3.length c3, .slice A4 n4 c4], .int .i64 at_, .int .i64 how] w fun e w' =>
      ∃ v3, e = .returned (.agg #[.int .i64 f0, .int .u32 f1, .slice A2 n2 c2, v3, .slice A4 n4 c4]) ∧ Kd.R k98 98 w' w.heap.size (fun _ => True) v3 (turnedA l3 at_ how) ∧ Below w.heap.size w w' := by
  have t1 : (f0 == 1) = false := beq_eq_false_iff_ne.2 hf
  have t2 : ((l3.length : Int) == 0) = false := beq_eq_false_iff_ne.2 (by omega)
  have hne : ¬ l3.length = 0 := by omega
  have hb1 := heap_alloc_new w (.cells #[.int .i64 f0, .int .u32 f1, .slice A2 n2 c2, .slice A3 l3.length c3, .slice A4 n4 c4] 43)
  have hw1 := below_alloc (Below.refl _ w) (.cells #[.int .i64 f0, .int .u32 f1, .slice A2 n2 c2, .slice A3 l3.length c3, .slice A4 n4 c4] 43)
  have hz1 : (w.alloc (.cells #[.int .i64 f0, .int .u32 f1, .slice A2 n2 c2, .slice A3 l3.length c3, .slice A4 n4 c4] 43)).heap.size = w.heap.size + 1 := by simp
  go_enter Tryd.func71, Tryd.ntmps71
  go_upto_region 1 with (fail)
  generalize w.alloc (.cells #[.int .i64 f0, .int .u32 f1, .slice A2 n2 c2, .slice A3 l3.length c3, .slice A4 n4 c4] 43) = w1 at hb1 hw1 hz1 ⊢
  have hb2 := heap_alloc_new w1 (.cells #[.int .i64 0, .int .u32 0, .slice none 0 0, .slice none 0 0, .slice none 0 0] 43)
  rw [hz1] at hb2
  have hb1' : (w1.alloc (.cells #[.int .i64 0, .int .u32 0, .slice none 0 0, .slice none 0 0, .slice none 0 0] 43)).heap[w.heap.size]? = some (.cells #[.int .i64 f0, .int .u32 f1, .slice A2 n2 c2, .slice A3 l3.length c3, .slice A4 n4 c4] 43) := by
    rw [Lib.alloc_old w1 _ _ (by omega)]; exact hb1
  have hw2 := below_alloc hw1 (.cells #[.int .i64 0, .int .u32 0, .slice none 0 0, .slice none 0 0, .slice none 0 0] 43)
  generalize w1.alloc (.cells #[.int .i64 0, .int .u32 0, .slice none 0 0, .slice none 0 0, .slice none 0 0] 43) = w2 at hb2 hb1' hw2 ⊢
  clear hb1 hw1 hz1
  have y0 : w2.cell? ⟨w.heap.size, 0, none⟩ = some (.int .i64 f0) := Lib.cell_of_heap hb1' 0
  have y1 : w2.cell? ⟨w.heap.size, 1, none⟩ = some (.int .u32 f1) := Lib.cell_of_heap hb1' 1
  have y2 : w2.cell? ⟨w.heap.size, 2, none⟩ = some (.slice A2 n2 c2) := Lib.cell_of_heap hb1' 2
  have y3 : w2.cell? ⟨w.heap.size, 3, none⟩ = some (.slice A3 l3.length c3) := Lib.cell_of_heap hb1' 3
  have y4 : w2.cell? ⟨w.heap.size, 4, none⟩ = some (.slice A4 n4 c4) := Lib.cell_of_heap hb1' 4
  have r0 : w2.cell? ⟨w.heap.size + 1, 0, none⟩ = some (.int .i64 0) := Lib.cell_of_heap hb2 0
  have r1 : w2.cell? ⟨w.heap.size + 1, 1, none⟩ = some (.int .u32 0) := Lib.cell_of_heap hb2 1
  have r2 : w2.cell? ⟨w.heap.size + 1, 2, none⟩ = some (.slice none 0 0) := Lib.cell_of_heap hb2 2
  have r3 : w2.cell? ⟨w.heap.size + 1, 3, none⟩ = some (.slice none 0 0) := Lib.cell_of_heap hb2 3
  have r4 : w2.cell? ⟨w.heap.size + 1, 4, none⟩ = some (.slice none 0 0) := Lib.cell_of_heap hb2 4
  have fr0 : w2.frozen? ⟨w.heap.size + 1, 0, none⟩ = false := Lib.frozen_of_heap hb2 0
  have fr1 : w2.frozen? ⟨w.heap.size + 1, 1, none⟩ = false := Lib.frozen_of_heap hb2 1
  have fr2 : w2.frozen? ⟨w.heap.size + 1, 2, none⟩ = false := Lib.frozen_of_heap hb2 2
  have fr3 : w2.frozen? ⟨w.heap.size + 1, 3, none⟩ = false := Lib.frozen_of_heap hb2 3
  have fr4 : w2.frozen? ⟨w.heap.size + 1, 4, none⟩ = false := Lib.frozen_of_heap hb2 4
  have fy1 : w2.frozen? ⟨w.heap.size, 1, none⟩ = false := Lib.frozen_of_heap hb1' 1
  have hCw : Kd.C k98 w2 A3 l3.length l3 := Kd.C_below hC3 hw2
  have hT1 : ReadsRow (k98.K w2) 4 w2 A3 l3.length l3 := hCw
  have hKM : ∀ (W : World) (x : S98) (cs : List Value), k98.K w2 x cs → k98.M W w.heap.size (fun _ => False) x cs := fun W x cs hK => by rw [k98_open hK]; exact k98_mkM _ _ _ _
  go_wp2_with (at_builtin; refine Kd.R_append_rows k98 (Rr := k98.K w2) (w0 := w) w.heap.size rfl (.const (.slice none 0 0)) (.tmp 27) 41 98 (.agg #[(.string ⟨#[]⟩), (.bool false), (.string ⟨#[]⟩), (.int .u32 0)]) 48 rfl Tryd.underlying41 info98 rfl (by decide) (by decide) (.slice none 0 0) [] l3 A3 l3.length c3 (fun k => k ≠ w.heap.size ∧ k ≠ w.heap.size + 1) (fun _ => False) rfl rfl (Kd.R_nil _ _ _ _ _) hT1 (hKM _) (fun _ h => h.elim) (fun k hk => ?fr) hw2 hw2.size ?aL ?_)
  case fr => exact ⟨by have := (Array.getElem?_eq_some_iff.1 hb1').1; omega, by have := (Array.getElem?_eq_some_iff.1 hb2).1; omega⟩
  case aL => simp only [List.length_nil]; omega
  intro v1 w3 hR1 hb3 hg3 _
  obtain ⟨g, cap, ev, hgb, hgl, cells, hgc⟩ := Kd.R_form hR1 hn
  subst ev
  have hgo := hR1.1 g (by simp [Value.ownBlock])
  have b1 : w3.heap[w.heap.size]? = some (.cells #[.int .i64 f0, .int .u32 f1, .slice A2 n2 c2, .slice A3 l3.length c3, .slice A4 n4 c4] 43) := (hg3.block _ (Array.getElem?_eq_some_iff.1 hb1').1 nil_own2).trans hb1'
  have b2 : w3.heap[w.heap.size + 1]? = some (.cells #[.int .i64 0, .int .u32 0, .slice none 0 0, .slice none 0 0, .slice none 0 0] 43) := (hg3.block _ (Array.getElem?_eq_some_iff.1 hb2).1 nil_own2).trans hb2
  clear y0 y1 y2 y3 y4 r0 r1 r2 r3 r4 fr0 fr1 fr2 fr3 fr4 fy1 hb1' hb2 hT1 hKM hg3 hgc cells hCw
  obtain ⟨i, hi⟩ : ∃ i : Nat, pickI at_ l3.length = i := ⟨(pickI at_ l3.length).toNat, by have := (pickI_in at_ l3.length (by omega) (by omega)).1; omega⟩
  have hil : i < l3.length := by have := (pickI_in at_ l3.length (by omega) (by omega)).2; omega
  have hp1 := fun W => pick_same at_ l3.length (by omega) (by omega) W
  have hp2 := fun W => pick_same how 5 (by decide) (by decide) W
  obtain ⟨q0, q1⟩ := pickI_in how 5 (by decide) (by decide)
  have hres : turnedA l3 at_ how = l3.set i (turn1 (rd_T98 l3 (i : Int)) (pickI how 5) how) := by unfold turnedA; rw [hi]; rfl
  rw [hi] at hp1
  obtain ⟨c, hcl, hcM, hcc, hcf⟩ := Kd.R_elem hR1 z98 (i : Int) (by omega) (by omega)
  obtain rfl := k98_openM hcM
  rw [show l3.getD ((i : Int).toNat) z98 = rd_T98 l3 (i : Int) from rfl] at hcM hcc
  rw [rd98 hil] at hcM hcc hres
  have hx2 := hs3 _ (List.getElem_mem hil)
  have hx3 := hu3 _ (List.getElem_mem hil)
  obtain ⟨x, hx⟩ : ∃ x, x = l3[i] := ⟨_, rfl⟩
  rw [← hx] at hcM hcc hx2 hx3 hres
  rw [hq] at hp2 q0 q1 hres
  have Hres := Lib.hid hres
  clear hx hq hres hi hcM
  obtain ⟨xk, xi, xv, xf⟩ := x
  have e0 : w3.cell? ⟨g, i * 4, none⟩ = some (.string xk) := hcc 0 _ rfl
  have e1 : w3.cell? ⟨g, i * 4 + 1, none⟩ = some (.bool xi) := hcc 1 _ rfl
  have e2 : w3.cell? ⟨g, i * 4 + 2, none⟩ = some (.string xv) := hcc 2 _ rfl
  have e3 : w3.cell? ⟨g, i * 4 + 3, none⟩ = some (.int .u32 xf) := hcc 3 _ rfl
  have Hcc := Lib.hid hcc
  clear hcc hcf
  go_wp2_with fail
  refine (hp1 _).mono ?_
  rintro e w4 ⟨rfl, rfl⟩
  go_wp2_with fail
  refine (hp2 _).mono ?_
  rintro e w5 ⟨rfl, rfl⟩
  go_wp2_with fail
  refine (cachepothand_Key.calls (wrap64 (Int.tdiv how 5)) (nameAt (pickI (wrap64 (Int.tdiv how 5)) 12)) _ (by unfold cachepothand_Key.f; rw [pickI_f _ 12 (by decide) (by decide)]; rfl) (hT.below hb3)).mono ?_
  rintro e w7 ⟨rfl, hbK⟩
  replace hR1 := Kd.R_below hR1 hbK
  replace hb3 := below_step hb3 hbK
  replace b1 := (hbK.block _ (Array.getElem?_eq_some_iff.1 b1).1).trans b1
  replace b2 := (hbK.block _ (Array.getElem?_eq_some_iff.1 b2).1).trans b2
  have Hc7 : Hid (∀ (j : Nat) (u : Value), [Value.string xk, .bool xi, .string xv, .int .u32 xf][j]? = some u → w7.cell? ⟨g, (i : Int).toNat * k98.sz + j, none⟩ = some u) := Lib.hid fun j u h => (hbK.cell (p := ⟨g, (i : Int).toNat * k98.sz + j, none⟩) hgl).trans (Hcc.out j u h)
  clear Hcc hbK
  go_wp2_with ((with_reducible refine gate_ (.store 9 (.tmp 79) (.tmp 77)) rfl ?_); refine Kd.R_store k98 (w0 := w) w.heap.size rfl rfl 9 (.tmp 79) (.tmp 77) rfl 98 (i : Int) 0 l3 ⟨nameAt (pickI (wrap64 (Int.tdiv how 5)) 12), xi, xv, xf⟩ (.string (nameAt (pickI (wrap64 (Int.tdiv how 5)) 12))) [.string (nameAt (pickI (wrap64 (Int.tdiv how 5)) 12))] [.string xk, .bool xi, .string xv, .int .u32 xf] (fun k => ¬k = w.heap.size ∧ ¬k = w.heap.size + 1) (fun _ => False) rfl rfl rfl rfl size9 (by simp [Value.oneCell']) hR1 (by omega) (by omega) rfl Hc7.out (Nat.le_of_ble_eq_true rfl) (k98_mkM _ _ _ ⟨nameAt (pickI (wrap64 (Int.tdiv how 5)) 12), xi, xv, xf⟩) (fun _ h => h.elim) hb3 ?_)
  intro w6 hR6 hb6 hg6
  have hl1 : w.heap.size < (w7).heap.size := by have := (Array.getElem?_eq_some_iff.1 b1).1; omega
  have d1 := (hg6.block _ (Array.getElem?_eq_some_iff.1 b1).1 (fun e => hgo.1 (Option.some.inj e).symm)).trans b1
  have d2 := (hg6.block _ (Array.getElem?_eq_some_iff.1 b2).1 (fun e => hgo.2 (Option.some.inj e).symm)).trans b2
  have y0 : w6.cell? ⟨w.heap.size, 0, none⟩ = some (.int .i64 f0) := Lib.cell_of_heap d1 0
  have y1 : w6.cell? ⟨w.heap.size, 1, none⟩ = some (.int .u32 f1) := Lib.cell_of_heap d1 1
  have y2 : w6.cell? ⟨w.heap.size, 2, none⟩ = some (.slice A2 n2 c2) := Lib.cell_of_heap d1 2
  have y3 : w6.cell? ⟨w.heap.size, 3, none⟩ = some (.slice A3 l3.length c3) := Lib.cell_of_heap d1 3
  have y4 : w6.cell? ⟨w.heap.size, 4, none⟩ = some (.slice A4 n4 c4) := Lib.cell_of_heap d1 4
  have fy3 : w6.frozen? ⟨w.heap.size, 3, none⟩ = false := Lib.frozen_of_heap d1 3
  have r0 : w6.cell? ⟨w.heap.size + 1, 0, none⟩ = some (.int .i64 0) := Lib.cell_of_heap d2 0
  have r1 : w6.cell? ⟨w.heap.size + 1, 1, none⟩ = some (.int .u32 0) := Lib.cell_of_heap d2 1
  have r2 : w6.cell? ⟨w.heap.size + 1, 2, none⟩ = some (.slice none 0 0) := Lib.cell_of_heap d2 2
  have r3 : w6.cell? ⟨w.heap.size + 1, 3, none⟩ = some (.slice none 0 0) := Lib.cell_of_heap d2 3
  have r4 : w6.cell? ⟨w.heap.size + 1, 4, none⟩ = some (.slice none 0 0) := Lib.cell_of_heap d2 4
  have fr0 : w6.frozen? ⟨w.heap.size + 1, 0, none⟩ = false := Lib.frozen_of_heap d2 0
  have fr1 : w6.frozen? ⟨w.heap.size + 1, 1, none⟩ = false := Lib.frozen_of_heap d2 1
  have fr2 : w6.frozen? ⟨w.heap.size + 1, 2, none⟩ = false := Lib.frozen_of_heap d2 2
  have fr3 : w6.frozen? ⟨w.heap.size + 1, 3, none⟩ = false := Lib.frozen_of_heap d2 3
  have fr4 : w6.frozen? ⟨w.heap.size + 1, 4, none⟩ = false := Lib.frozen_of_heap d2 4
  have hfin : l3.set i ⟨nameAt (pickI (wrap64 (Int.tdiv how 5)) 12), xi, xv, xf⟩ = turnedA l3 at_ how := by rw [Hres.out]; exact congrArg _ (turn1_3 ⟨xk, xi, xv, xf⟩ how).symm
  rw [show (i : Int).toNat = i from rfl, hfin] at hR6
  clear hfin d1 d2 hg6 hl1
  go_wp2
  refine bodyPost_ret (v := .agg #[.int .i64 f0, .int .u32 f1, .slice A2 n2 c2, .slice (some ⟨g, 0, none⟩) l3.length cap, .slice A4 n4 c4]) (by simp [results, Tryd.results71, go_sem, r0, r1, r2, r3, r4]) rfl ⟨_, rfl, ?_, ?_⟩
  · refine Kd.R_mono (ok := fun k => ¬k = w.heap.size ∧ ¬k = w.heap.size + 1) ?_ (fun _ _ => trivial)
    repeat (first | (with_reducible exact hR6) | (refine Kd.R_far ?_ (fun k hk => by first | exact hk.1 | exact hk.2) _))
  · repeat (first | (with_reducible exact hb6) | (refine Below.setCell ?_ (by simp) _))
set_option maxHeartbeats 16000000 in
set_option maxRecDepth 100000 in
theorem turned_some4 (f0 f1 : Int) (A2 : Option Addr) (n2 c2 : Nat) (A3 : Option Addr) (c3 : Nat) (l3 : List S98) (A4 : Option Addr) (n4 c4 : Nat) (at_ how : Int) (w : World) (hf : ¬ f0 = 1) (hn : 0 < l3.length) (hl3 : l3.length ≤ 1048576)
    (hC3 : Kd.C k98 w A3 l3.length l3) (hs3 : ∀ x ∈ l3, x.f2.size ≤ 1099511627776) (hu3 : ∀ x ∈ l3, 0 ≤ x.f3 ∧ x.f3 ≤ 4294967295) (hq : pickI how 5 = 4) :
    Calls Tryd.prog 71 #[.agg #[.int .i64 f0, .int .u32 f1, .slice A2 n2 c2, .slice A3 l3.length c3, .slice A4 n4 c4], .int .i64 at_, .int .i64 how] w fun e w' =>
      ∃ v3, e = .returned (.agg #[.int .i64 f0, .int .u32 f1, .slice A2 n2 c2, v3, .slice A4 n4 c4]) ∧ Kd.R k98 98 w' w.heap.size (fun _ => True) v3 (turnedA l3 at_ how) ∧ Below w.heap.size w w' := by
  have t1 : (f0 == 1) = false := beq_eq_false_iff_ne.2 hf
  have t2 : ((l3.length : Int) == 0) = false := beq_eq_false_iff_ne.2 (by omega)
  have hne : ¬ l3.length = 0 := by omega
  have hb1 := heap_alloc_new w (.cells #[.int .i64 f0, .int .u32 f1, .slice A2 n2 c2, .slice A3 l3.length c3, .slice A4 n4 c4] 43)
  have hw1 := below_alloc (Below.refl _ w) (.cells #[.int .i64 f0, .int .u32 f1, .slice A2 n2 c2, .slice A3 l3.length c3, .slice A4 n4 c4] 43)
  have hz1 : (w.alloc (.cells #[.int .i64 f0, .int .u32 f1, .slice A2 n2 c2, .slice A3 l3.length c3, .slice A4 n4 c4] 43)).heap.size = w.heap.size + 1 := by simp
  go_enter Tryd.func71, Tryd.ntmps71
  go_upto_region 1 with (fail)
  generalize w.alloc (.cells #[.int .i64 f0, .int .u32 f1, .slice A2 n2 c2, .slice A3 l3.length c3, .slice A4 n4 c4] 43) = w1 at hb1 hw1 hz1 ⊢
  have hb2 := heap_alloc_new w1 (.cells #[.int .i64 0, .int .u32 0, .slice none 0 0, .slice none 0 0, .slice none 0 0] 43)
  rw [hz1] at hb2
  have hb1' : (w1.alloc (.cells #[.int .i64 0, .int .u32 0, .slice none 0 0, .slice none 0 0, .slice none 0 0] 43)).heap[w.heap.size]? = some (.cells #[.int .i64 f0, .int .u32 f1, .slice A2 n2 c2, .slice A3 l3.length c3, .slice A4 n4 c4] 43) := by
    rw [Lib.alloc_old w1 _ _ (by omega)]; exact hb1
  have hw2 := below_alloc hw1 (.cells #[.int .i64 0, .int .u32 0, .slice none 0 0, .slice none 0 0, .slice none 0 0] 43)
  generalize w1.alloc (.cells #[.int .i64 0, .int .u32 0, .slice none 0 0, .slice none 0 0, .slice none 0 0] 43) = w2 at hb2 hb1' hw2 ⊢
  clear hb1 hw1 hz1
  have y0 : w2.cell? ⟨w.heap.size, 0, none⟩ = some (.int .i64 f0) := Lib.cell_of_heap hb1' 0
  have y1 : w2.cell? ⟨w.heap.size, 1, none⟩ = some (.int .u32 f1) := Lib.cell_of_heap hb1' 1
  have y2 : w2.cell? ⟨w.heap.size, 2, none⟩ = some (.slice A2 n2 c2) := Lib.cell_of_heap hb1' 2
  have y3 : w2.cell? ⟨w.heap.size, 3, none⟩ = some (.slice A3 l3.length c3) := Lib.cell_of_heap hb1' 3
  have y4 : w2.cell? ⟨w.heap.size, 4, none⟩ = some (.slice A4 n4 c4) := Lib.cell_of_heap hb1' 4
  have r0 : w2.cell? ⟨w.heap.size + 1, 0, none⟩ = some (.int .i64 0) := Lib.cell_of_heap hb2 0
  have r1 : w2.cell? ⟨w.heap.size + 1, 1, none⟩ = some (.int .u32 0) := Lib.cell_of_heap hb2 1
  have r2 : w2.cell? ⟨w.heap.size + 1, 2, none⟩ = some (.slice none 0 0) := Lib.cell_of_heap hb2 2
  have r3 : w2.cell? ⟨w.heap.size + 1, 3, none⟩ = some (.slice none 0 0) := Lib.cell_of_heap hb2 3
  have r4 : w2.cell? ⟨w.heap.size + 1, 4, none⟩ = some (.slice none 0 0) := Lib.cell_of_heap hb2 4
  have fr0 : w2.frozen? ⟨w.heap.size + 1, 0, none⟩ = false := Lib.frozen_of_heap hb2 0
  have fr1 : w2.frozen? ⟨w.heap.size + 1, 1, none⟩ = false := Lib.frozen_of_heap hb2 1
  have fr2 : w2.frozen? ⟨w.heap.size + 1, 2, none⟩ = false := Lib.frozen_of_heap hb2 2
  have fr3 : w2.frozen? ⟨w.heap.size + 1, 3, none⟩ = false := Lib.frozen_of_heap hb2 3
  have fr4 : w2.frozen? ⟨w.heap.size + 1, 4, none⟩ = false := Lib.frozen_of_heap hb2 4
  have fy1 : w2.frozen? ⟨w.heap.size, 1, none⟩ = false := Lib.frozen_of_heap hb1' 1
  have hCw : Kd.C k98 w2 A3 l3.length l3 := Kd.C_below hC3 hw2
  have hT1 : ReadsRow (k98.K w2) 4 w2 A3 l3.length l3 := hCw
  have hKM : ∀ (W : World) (x : S98) (cs : List Value), k98.K w2 x cs → k98.M W w.heap.size (fun _ => False) x cs := fun W x cs hK => by rw [k98_open hK]; exact k98_mkM _ _ _ _
  go_wp2_with (at_builtin; refine Kd.R_append_rows k98 (Rr := k98.K w2) (w0 := w) w.heap.size rfl (.const (.slice none 0 0)) (.tmp 27) 41 98 (.agg #[(.string ⟨#[]⟩), (.bool false), (.string ⟨#[]⟩), (.int .u32 0)]) 48 rfl Tryd.underlying41 info98 rfl (by decide) (by decide) (.slice none 0 0) [] l3 A3 l3.length c3 (fun k => k ≠ w.heap.size ∧ k ≠ w.heap.size + 1) (fun _ => False) rfl rfl (Kd.R_nil _ _ _ _ _) hT1 (hKM _) (fun _ h => h.elim) (fun k hk => ?fr) hw2 hw2.size ?aL ?_)
  case fr => exact ⟨by have := (Array.getElem?_eq_some_iff.1 hb1').1; omega, by have := (Array.getElem?_eq_some_iff.1 hb2).1; omega⟩
  case aL => simp only [List.length_nil]; omega
  intro v1 w3 hR1 hb3 hg3 _
  obtain ⟨g, cap, ev, hgb, hgl, cells, hgc⟩ := Kd.R_form hR1 hn
  subst ev
  have hgo := hR1.1 g (by simp [Value.ownBlock])
  have b1 : w3.heap[w.heap.size]? = some (.cells #[.int .i64 f0, .int .u32 f1, .slice A2 n2 c2, .slice A3 l3.length c3, .slice A4 n4 c4] 43) := (hg3.block _ (Array.getElem?_eq_some_iff.1 hb1').1 nil_own2).trans hb1'
  have b2 : w3.heap[w.heap.size + 1]? = some (.cells #[.int .i64 0, .int .u32 0, .slice none 0 0, .slice none 0 0, .slice none 0 0] 43) := (hg3.block _ (Array.getElem?_eq_some_iff.1 hb2).1 nil_own2).trans hb2
  clear y0 y1 y2 y3 y4 r0 r1 r2 r3 r4 fr0 fr1 fr2 fr3 fr4 fy1 hb1' hb2 hT1 hKM hg3 hgc cells hCw
  obtain ⟨i, hi⟩ : ∃ i : Nat, pickI at_ l3.length = i := ⟨(pickI at_ l3.length).toNat, by have := (pickI_in at_ l3.length (by omega) (by omega)).1; omega⟩
  have hil : i < l3.length := by have := (pickI_in at_ l3.length (by omega) (by omega)).2; omega
  have hp1 := fun W => pick_same at_ l3.length (by omega) (by omega) W
  have hp2 := fun W => pick_same how 5 (by decide) (by decide) W
  obtain ⟨q0, q1⟩ := pickI_in how 5 (by decide) (by decide)
  have hres : turnedA l3 at_ how = l3.set i (turn1 (rd_T98 l3 (i : Int)) (pickI how 5) how) := by unfold turnedA; rw [hi]; rfl
  rw [hi] at hp1
  obtain ⟨c, hcl, hcM, hcc, hcf⟩ := Kd.R_elem hR1 z98 (i : Int) (by omega) (by omega)
  obtain rfl := k98_openM hcM
  rw [show l3.getD ((i : Int).toNat) z98 = rd_T98 l3 (i : Int) from rfl] at hcM hcc
  rw [rd98 hil] at hcM hcc hres
  have hx2 := hs3 _ (List.getElem_mem hil)
  have hx3 := hu3 _ (List.getElem_mem hil)
  obtain ⟨x, hx⟩ : ∃ x, x = l3[i] := ⟨_, rfl⟩
  rw [← hx] at hcM hcc hx2 hx3 hres
  rw [hq] at hp2 q0 q1 hres
  have Hres := Lib.hid hres
  clear hx hq hres hi hcM
  obtain ⟨xk, xi, xv, xf⟩ := x
  have e0 : w3.cell? ⟨g, i * 4, none⟩ = some (.string xk) := hcc 0 _ rfl
  have e1 : w3.cell? ⟨g, i * 4 + 1, none⟩ = some (.bool xi) := hcc 1 _ rfl
  have e2 : w3.cell? ⟨g, i * 4 + 2, none⟩ = some (.string xv) := hcc 2 _ rfl
  have e3 : w3.cell? ⟨g, i * 4 + 3, none⟩ = some (.int .u32 xf) := hcc 3 _ rfl
  have Hcc := Lib.hid hcc
  clear hcc hcf
  go_wp2_with fail
  refine (hp1 _).mono ?_
  rintro e w4 ⟨rfl, rfl⟩
  go_wp2_with fail
  refine (hp2 _).mono ?_
  rintro e w5 ⟨rfl, rfl⟩
  go_wp2_with ((with_reducible refine gate_ (.store 98 (.tmp 43) (.tmp 42)) rfl ?_); refine Kd.R_store k98 (w0 := w) w.heap.size rfl rfl 98 (.tmp 43) (.tmp 42) rfl 98 (i : Int) 0 l3 ⟨xk, false, ⟨#[]⟩, 0⟩ (.agg #[.string xk, .bool false, .string ⟨#[]⟩, .int .u32 0]) [.string xk, .bool false, .string ⟨#[]⟩, .int .u32 0] [.string xk, .bool xi, .string xv, .int .u32 xf] (fun k => ¬k = w.heap.size ∧ ¬k = w.heap.size + 1) (fun _ => False) rfl rfl rfl rfl size98' (by simp [Value.oneCell']) hR1 (by omega) (by omega) rfl Hcc.out (Nat.le_of_ble_eq_true rfl) (k98_mkM _ _ _ ⟨xk, false, ⟨#[]⟩, 0⟩) (fun _ h => h.elim) hb3 ?_)
  intro w6 hR6 hb6 hg6
  have hl1 : w.heap.size < (w5).heap.size := by have := (Array.getElem?_eq_some_iff.1 b1).1; omega
  have d1 := (hg6.block _ (Array.getElem?_eq_some_iff.1 b1).1 (fun e => hgo.1 (Option.some.inj e).symm)).trans b1
  have d2 := (hg6.block _ (Array.getElem?_eq_some_iff.1 b2).1 (fun e => hgo.2 (Option.some.inj e).symm)).trans b2
  have y0 : w6.cell? ⟨w.heap.size, 0, none⟩ = some (.int .i64 f0) := Lib.cell_of_heap d1 0
  have y1 : w6.cell? ⟨w.heap.size, 1, none⟩ = some (.int .u32 f1) := Lib.cell_of_heap d1 1
  have y2 : w6.cell? ⟨w.heap.size, 2, none⟩ = some (.slice A2 n2 c2) := Lib.cell_of_heap d1 2
  have y3 : w6.cell? ⟨w.heap.size, 3, none⟩ = some (.slice A3 l3.length c3) := Lib.cell_of_heap d1 3
  have y4 : w6.cell? ⟨w.heap.size, 4, none⟩ = some (.slice A4 n4 c4) := Lib.cell_of_heap d1 4
  have fy3 : w6.frozen? ⟨w.heap.size, 3, none⟩ = false := Lib.frozen_of_heap d1 3
  have r0 : w6.cell? ⟨w.heap.size + 1, 0, none⟩ = some (.int .i64 0) := Lib.cell_of_heap d2 0
  have r1 : w6.cell? ⟨w.heap.size + 1, 1, none⟩ = some (.int .u32 0) := Lib.cell_of_heap d2 1
  have r2 : w6.cell? ⟨w.heap.size + 1, 2, none⟩ = some (.slice none 0 0) := Lib.cell_of_heap d2 2
  have r3 : w6.cell? ⟨w.heap.size + 1, 3, none⟩ = some (.slice none 0 0) := Lib.cell_of_heap d2 3
  have r4 : w6.cell? ⟨w.heap.size + 1, 4, none⟩ = some (.slice none 0 0) := Lib.cell_of_heap d2 4
  have fr0 : w6.frozen? ⟨w.heap.size + 1, 0, none⟩ = false := Lib.frozen_of_heap d2 0
  have fr1 : w6.frozen? ⟨w.heap.size + 1, 1, none⟩ = false := Lib.frozen_of_heap d2 1
  have fr2 : w6.frozen? ⟨w.heap.size + 1, 2, none⟩ = false := Lib.frozen_of_heap d2 2
  have fr3 : w6.frozen? ⟨w.heap.size + 1, 3, none⟩ = false := Lib.frozen_of_heap d2 3
  have fr4 : w6.frozen? ⟨w.heap.size + 1, 4, none⟩ = false := Lib.frozen_of_heap d2 4
  have hfin : l3.set i ⟨xk, false, ⟨#[]⟩, 0⟩ = turnedA l3 at_ how := by rw [Hres.out]; exact congrArg _ (turn1_4 ⟨xk, xi, xv, xf⟩ how).symm
  rw [show (i : Int).toNat = i from rfl, hfin] at hR6
  clear hfin d1 d2 hg6 hl1
  go_wp2
  refine bodyPost_ret (v := .agg #[.int .i64 f0, .int .u32 f1, .slice A2 n2 c2, .slice (some ⟨g, 0, none⟩) l3.length cap, .slice A4 n4 c4]) (by simp [results, Tryd.results71, go_sem, r0, r1, r2, r3, r4]) rfl ⟨_, rfl, ?_, ?_⟩
  · refine Kd.R_mono (ok := fun k => ¬k = w.heap.size ∧ ¬k = w.heap.size + 1) ?_ (fun _ _ => trivial)
    repeat (first | (with_reducible exact hR6) | (refine Kd.R_far ?_ (fun k hk => by first | exact hk.1 | exact hk.2) _))
  · repeat (first | (with_reducible exact hb6) | (refine Below.setCell ?_ (by simp) _))
theorem turned_some (f0 f1 : Int) (A2 : Option Addr) (n2 c2 : Nat) (A3 : Option Addr) (c3 : Nat) (l3 : List S98) (A4 : Option Addr) (n4 c4 : Nat) (at_ how : Int) (w : World) (hf : ¬ f0 = 1) (hn : 0 < l3.length) (hl3 : l3.length ≤ 1048576)
    (hC3 : Kd.C k98 w A3 l3.length l3) (hs3 : ∀ x ∈ l3, x.f2.size ≤ 1099511627776) (hu3 : ∀ x ∈ l3, 0 ≤ x.f3 ∧ x.f3 ≤ 4294967295) (hT : Tabs w) :
    Calls Tryd.prog 71 #[.agg #[.int .i64 f0, .int .u32 f1, .slice A2 n2 c2, .slice A3 l3.length c3, .slice A4 n4 c4], .int .i64 at_, .int .i64 how] w fun e w' =>
      ∃ v3, e = .returned (.agg #[.int .i64 f0, .int .u32 f1, .slice A2 n2 c2, v3, .slice A4 n4 c4]) ∧ Kd.R k98 98 w' w.heap.size (fun _ => True) v3 (turnedA l3 at_ how) ∧ Below w.heap.size w w' := by
  obtain ⟨q0, q1⟩ := pickI_in how 5 (by decide) (by decide)
  rcases (by omega : pickI how 5 = 0 ∨ pickI how 5 = 1 ∨ pickI how 5 = 2 ∨ pickI how 5 = 3 ∨ pickI how 5 = 4) with h | h | h | h | h
  · exact turned_some0 f0 f1 A2 n2 c2 A3 c3 l3 A4 n4 c4 at_ how w hf hn hl3 hC3 hs3 hu3 h
  · exact turned_some1 f0 f1 A2 n2 c2 A3 c3 l3 A4 n4 c4 at_ how w hf hn hl3 hC3 hs3 hu3 h
  · exact turned_some2 f0 f1 A2 n2 c2 A3 c3 l3 A4 n4 c4 at_ how w hf hn hl3 hC3 hs3 hu3 h
  · exact turned_some3 f0 f1 A2 n2 c2 A3 c3 l3 A4 n4 c4 at_ how w hf hn hl3 hC3 hs3 hu3 hT h
  · exact turned_some4 f0 f1 A2 n2 c2 A3 c3 l3 A4 n4 c4 at_ how w hf hn hl3 hC3 hs3 hu3 h
end Go.Proofs.YtfaelejeihmgcaaDoor.Lgx
end

section
namespace Go.Proofs.YtfaelejeihmgcaaDoor.Lgx
open Go.RowKit Go.Proofs.YtfaelejeihmgcaaDoorW.PrintWords Go.Proofs.YtfaelejeihmgcaaDoorW.PrintLast
def turnE (e : S43) (at_ how : Int) : S43 :=
  if e.f0 = 1 then ⟨1, e.f1 / 2 + pickI at_ 3, e.f2, e.f3, e.f4⟩
  else if e.f3.length = 0 then e else ⟨e.f0, e.f1, e.f2, turnedA e.f3 at_ how, e.f4⟩
theorem turned_all (x : S43) (v2 v3 v4 : Value) (at_ how : Int) (w : World) (base : Nat) (ok : Nat → Prop) (h2 : Kd.R k101 101 w base ok v2 x.f2) (h3 : Kd.R k98 98 w base ok v3 x.f3) (h4 : Kd.R Kd.string 9 w base ok v4 x.f4)
    (hbase : base ≤ w.heap.size) (hok : ∀ k, w.heap.size ≤ k → ok k) (h0 : 0 ≤ x.f1) (h1 : x.f1 ≤ 4294967295) (hl3 : x.f3.length ≤ 1048576) (hs3 : ∀ y ∈ x.f3, y.f2.size ≤ 1099511627776) (hu3 : ∀ y ∈ x.f3, 0 ≤ y.f3 ∧ y.f3 ≤ 4294967295) (hT : Tabs w) :
    Calls Tryd.prog 71 #[.agg #[.int .i64 x.f0, .int .u32 x.f1, v2, v3, v4], .int .i64 at_, .int .i64 how] w fun e w' =>
      ∃ v3', e = .returned (.agg #[.int .i64 (turnE x at_ how).f0, .int .u32 (turnE x at_ how).f1, v2, v3', v4]) ∧ Kd.R k98 98 w' base ok v3' (turnE x at_ how).f3 ∧ ((turnE x at_ how).f2 = x.f2 ∧ (turnE x at_ how).f4 = x.f4) ∧ Below w.heap.size w w' := by
  obtain ⟨A2, c2, e2⟩ := Kd.R_slice h2
  obtain ⟨A3, c3, e3⟩ := Kd.R_slice h3
  obtain ⟨A4, c4, e4⟩ := Kd.R_slice h4
  obtain ⟨_, _, hC3⟩ := Kd.R_reads' (e3 ▸ h3)
  subst e2 e4
  obtain ⟨x0, x1, x2, x3, x4⟩ := x
  by_cases hf : x0 = 1
  · subst hf
    subst e3
    have ht : turnE ⟨1, x1, x2, x3, x4⟩ at_ how = ⟨1, x1 / 2 + pickI at_ 3, x2, x3, x4⟩ := by simp [turnE]
    rw [ht]
    exact (turned_commit x1 A2 x2.length c2 A3 x3.length c3 A4 x4.length c4 at_ how w h0 h1).mono fun e w' ⟨he, hb⟩ => ⟨_, he, Kd.R_below h3 hb, ⟨rfl, rfl⟩, hb⟩
  · by_cases hn : x3.length = 0
    · obtain rfl : x3 = [] := List.length_eq_zero_iff.1 hn
      subst e3
      have ht : turnE ⟨x0, x1, x2, [], x4⟩ at_ how = ⟨x0, x1, x2, [], x4⟩ := by simp [turnE, hf]
      rw [ht]
      exact (turned_none x0 x1 A2 x2.length c2 A3 c3 A4 x4.length c4 at_ how w hf).mono fun e w' ⟨he, hb⟩ => ⟨_, he, Kd.R_below h3 hb, ⟨rfl, rfl⟩, hb⟩
    · subst e3
      have ht : turnE ⟨x0, x1, x2, x3, x4⟩ at_ how = ⟨x0, x1, x2, turnedA x3 at_ how, x4⟩ := by
        simp only [turnE, if_neg hf, if_neg hn]
      rw [ht]
      exact (turned_some x0 x1 A2 x2.length c2 A3 c3 x3 A4 x4.length c4 at_ how w hf (Nat.pos_of_ne_zero hn) hl3 hC3 hs3 hu3 hT).mono fun e w' ⟨v3, he, hR, hb⟩ => ⟨v3, he, Kd.R_lower (Kd.R_mono (Kd.R_bound hR) (fun k hk => hok k hk.2.1)) hbase, ⟨rfl, rfl⟩, hb⟩
end Go.Proofs.YtfaelejeihmgcaaDoor.Lgx
end

section
namespace Go.Proofs.YtfaelejeihmgcaaDoor.Lgx
open Go.RowKit Go.Proofs.YtfaelejeihmgcaaDoorW.PrintWords Go.Proofs.YtfaelejeihmgcaaDoorW.PrintLast
def withoutF (key : ByteArray) (L : List S98) : List S98 := L.filter fun x => !(x.f0.toList == key.toList)
theorem rdstr2 {l : List ByteArray} {k : Nat} (h : k < l.length) : rdOf ByteArray.empty l (k : Int) = l[k] := by
  unfold rdOf
  rw [List.getD_eq_getElem?_getD, Int.toNat_natCast, List.getElem?_eq_getElem h]
  rfl
set_option maxHeartbeats 4000000 in
set_option maxRecDepth 100000 in
theorem ref_without (b : Nat) (A : Option Addr) (c : Nat) (L : List S98) (key : ByteArray) (w : World) (hc : w.cell? ⟨b, 0, none⟩ = some (.slice A L.length c)) (hC : Kd.C k98 w A L.length L) (hL : L.length ≤ 1048576) :
    Calls Tryd.prog 99 #[.pointer (some ⟨b, 0, none⟩), .string key] w fun e w' => ∃ v : Value, e = .returned v ∧ Kd.R k98 98 w' w.heap.size (fun _ => True) v (withoutF key L) ∧ Below w.heap.size w w' := by
  have hblt := World.block_lt_of_cell? w _ hc
  simp only at hblt
  go_enter Tryd.func99, Tryd.ntmps99
  go_wp2
  go_loopw [5, 6] (fun v i wr => ∃ k : Nat, k ≤ L.length ∧ i = .int .i64 k ∧ Kd.R k98 98 wr w.heap.size (fun _ => True) v (withoutF key (L.take k)) ∧ Below w.heap.size w wr) (fun _ i _ => L.length - (intOf i).toNat)
  case atStart => exact ⟨0, Nat.zero_le _, rfl, Kd.R_nil _ _ _ _ _, Below.refl _ _⟩
  case round =>
    obtain ⟨k, hkl, rfl, hR, hb⟩ := hrel
    have hc1 := (hb.cell (p := ⟨b, 0, none⟩) hblt).trans hc
    by_cases hlt : k < L.length
    · obtain ⟨ad, e, y0, y1, y2, y3⟩ := at_T98 (Kd.C_below hC hb) k (by omega) (by omega)
      cases e
      rw [rd98 hlt] at y0 y1 y2 y3
      have hlen : (withoutF key (L.take k)).length ≤ 1048576 := by
        have h1 := List.length_filter_le (fun x : S98 => !(x.f0.toList == key.toList)) (L.take k)
        have h2 := List.length_take_le k L
        unfold withoutF
        omega
      have hsn : withoutF key (L.take (k + 1)) = withoutF key (L.take k) ++ withoutF key [L[k]] := by
        rw [List.take_succ_eq_append_getElem hlt, withoutF, List.filter_append]
        rfl
      obtain ⟨x, hx⟩ : ∃ x, x = L[k] := ⟨_, rfl⟩
      rw [← hx] at y0 y1 y2 y3 hsn
      simp only [Int.toNat_natCast] at y0 y1 y2 y3
      clear hx
      obtain ⟨xk, xi, xv, xf⟩ := x
      by_cases hs : xk.toList = key.toList
      · have c1 : (xk.toList == key.toList) = true := beq_iff_eq.mpr hs
        have c2 : (xk.toList != key.toList) = false := bne_eq_false_iff_eq.mpr hs
        have e0 : withoutF key [⟨xk, xi, xv, xf⟩] = [] := by simp [withoutF, hs]
        rw [e0, List.append_nil] at hsn
        have Hsn := Lib.hid hsn
        clear hs hsn e0
        go_wp2
        go_roundw
        case rel => exact ⟨k + 1, hlt, by simp, by rw [Hsn.out]; exact hR, hb⟩
        case measure => simp [intOf]; omega
      · have c1 : (xk.toList == key.toList) = false := beq_eq_false_iff_ne.mpr hs
        have c2 : (xk.toList != key.toList) = true := bne_iff_ne.mpr hs
        have e0 : withoutF key [⟨xk, xi, xv, xf⟩] = [⟨xk, xi, xv, xf⟩] := by simp [withoutF, hs]
        rw [e0] at hsn
        have Hsn := Lib.hid hsn
        clear hs hsn e0
        go_wp2_with (at_builtin; refine Kd.R_append k98 (w0 := w) w.heap.size rfl (.tmp 26) (.tmp 34) 41 98 (.agg #[(.string ⟨#[]⟩), (.bool false), (.string ⟨#[]⟩), (.int .u32 0)]) 48 rfl Tryd.underlying41 info98 rfl (by decide) (by omega) u5 (withoutF key (L.take k)) ⟨xk, xi, xv, xf⟩ [.string xk, .bool xi, .string xv, .int .u32 xf] (fun _ => True) (fun _ => False) rfl (by first | (go_simp; done) | (go_simp; rfl)) (k98_mkM _ _ _ ⟨xk, xi, xv, xf⟩) (fun _ hk => hk.elim) (fun _ _ => trivial) hR hb hb.size ?aL ?_)
        case aL => omega
        intro v1 w1 hR1 hb1 _ _
        rw [← Hsn.out] at hR1
        clear hR
        go_wp2
        go_roundw
        case rel => exact ⟨k + 1, hlt, by simp, hR1, hb1⟩
        case measure => simp [intOf]; omega
    · have hke : k = L.length := by omega
      subst hke
      rw [List.take_length] at hR
      go_wp2
      go_ret
      exact ⟨_, rfl, hR, hb⟩
/-- A pointer to the reference's Map in block b, whose row is v. -/
structure RefIs (w : World) (B b : Nat) (v : Value) (L : List S98) : Prop where
  cell : w.heap[b]? = some (.cells #[v] 104 (0, 0))
  row : Kd.R k98 98 w B (fun k => k ≠ b) v L
  hB : B ≤ b
theorem RefIs.lt {w : World} {B b : Nat} {v : Value} {L : List S98} (h : RefIs w B b v L) : b < w.heap.size := (Array.getElem?_eq_some_iff.1 h.cell).1
theorem RefIs.cell0 {w : World} {B b : Nat} {v : Value} {L : List S98} (h : RefIs w B b v L) : w.cell? ⟨b, 0, none⟩ = some v := by
  simp [World.cell?, h.cell]
theorem RefIs.free {w : World} {B b : Nat} {v : Value} {L : List S98} (h : RefIs w B b v L) : w.frozen? ⟨b, 0, none⟩ = false := Lib.frozen_of_heap h.cell 0
theorem RefIs.below {w w' : World} {B b : Nat} {v : Value} {L : List S98} (h : RefIs w B b v L) (hb : Below w.heap.size w w') : RefIs w' B b v L :=
  ⟨(hb.block b h.lt).trans h.cell, Kd.R_below h.row hb, h.hB⟩
/-- another row is stored into the field -/
theorem RefIs.put {w w1 : World} {B b : Nat} {v v1 : Value} {L L1 : List S98} (h : RefIs w B b v L) (hb : Below w.heap.size w w1) (hr : Kd.R k98 98 w1 w.heap.size (fun _ => True) v1 L1) : RefIs (w1.setCell ⟨b, 0, none⟩ v1) B b v1 L1 := by
  have hlt := h.lt
  refine ⟨?_, ?_, h.hB⟩
  · have e := (hb.block b hlt).trans h.cell
    simp [World.setCell, Array.getElem?_modify, e]
  · have h1 : Kd.R k98 98 w1 w.heap.size (fun k => k ≠ b) v1 L1 := Kd.R_mono (Kd.R_bound hr) (fun k hk => by have := hk.2.1; omega)
    exact Kd.R_lower (Kd.R_far h1 (fun k hk => hk) v1) (Nat.le_trans h.hB (Nat.le_of_lt hlt))
theorem grown_put {w w1 : World} {b : Nat} (hb : Below w.heap.size w w1) (v : Value) : w.grownBy (w1.setCell ⟨b, 0, none⟩ v) (some b) :=
  ⟨hb.os, hb.tape, hb.output, by simpa [World.setCell] using hb.size, fun i hi hne => by
    rw [Below.heap_setCell _ _ _ _ (fun e => hne (by rw [e]))]
    exact hb.block i hi⟩
def forgetF : List ByteArray → List S98 → List S98
  | [], L => L
  | k :: l, L => forgetF l (withoutF k L)
theorem forgetF_snoc (l : List ByteArray) (x : ByteArray) : ∀ L, forgetF (l ++ [x]) L = withoutF x (forgetF l L) := by
  induction l with
  | nil => intro L; rfl
  | cons y l ih => intro L; exact ih _
theorem withoutF_len (k : ByteArray) (L : List S98) : (withoutF k L).length ≤ L.length := List.length_filter_le _ _
theorem forgetF_len (l : List ByteArray) : ∀ L : List S98, (forgetF l L).length ≤ L.length := by
  induction l with
  | nil => intro L; exact Nat.le_refl _
  | cons k l ih => intro L; exact Nat.le_trans (ih _) (withoutF_len k L)
set_option maxHeartbeats 4000000 in
set_option maxRecDepth 100000 in
theorem ref_Forget (B b : Nat) (v : Value) (L : List S98) (A : Option Addr) (c : Nat) (l : List ByteArray) (w : World) (h : RefIs w B b v L) (hr : ∀ W, w.grownBy W (some b) → Kd.C Kd.string W A l.length l)
    (hL : L.length ≤ 1048576) (hl : l.length ≤ 1048576) :
    Calls Tryd.prog 67 #[.pointer (some ⟨b, 0, none⟩), .slice A l.length c] w fun e w' => e = .returned (.tuple #[]) ∧ ∃ v', RefIs w' B b v' (forgetF l L) ∧ w.grownBy w' (some b) := by
  go_enter Tryd.func67, Tryd.ntmps67
  go_wp2
  go_loopw [4] (fun i wr => ∃ (k : Nat) (v1 : Value), k ≤ l.length ∧ i = .int .i64 k ∧ RefIs wr B b v1 (forgetF (l.take k) L) ∧ w.grownBy wr (some b)) (fun i _ => l.length - (intOf i).toNat)
  case atStart => exact ⟨0, v, Nat.zero_le _, rfl, h, World.grownBy.refl _ _⟩
  case round =>
    obtain ⟨k, v1, hkl, rfl, hI, hg⟩ := hrel
    by_cases hlt : k < l.length
    · obtain ⟨ad, e, c0⟩ := Kd.at_string (hr _ hg) k (by omega) (by omega)
      cases e
      rw [rdstr2 hlt] at c0
      have hsn := forgetF_snoc (l.take k) l[k] L
      rw [← List.take_succ_eq_append_getElem hlt] at hsn
      obtain ⟨x, hx⟩ : ∃ x, x = l[k] := ⟨_, rfl⟩
      rw [← hx] at c0 hsn
      have Hsn := Lib.hid hsn
      clear hsn hx
      simp only [Int.toNat_natCast] at c0
      have hlen := Nat.le_trans (forgetF_len (l.take k) L) hL
      have cb := hI.cell0
      obtain ⟨Av, cv, ev⟩ := Kd.R_slice hI.row
      subst ev
      have hCv := (Kd.R_reads' hI.row).2.2
      go_wp2_with fail
      refine (ref_without b Av cv _ x wr cb hCv hlen).mono ?_
      rintro e w2 ⟨v2, rfl, hR2, hb2⟩
      have hI2 := hI.put hb2 hR2
      have hg2 := hg.trans (grown_put (b := b) hb2 v2)
      have f2 := (hI.below hb2).free
      have cb2 := (hI.below hb2).cell0
      rw [← Hsn.out] at hI2
      obtain ⟨A2, c2, ev2⟩ := Kd.R_slice hR2
      subst ev2
      go_wp2
      go_roundw
      case rel => exact ⟨k + 1, _, hlt, by simp, hI2, hg2⟩
      case measure => simp [intOf]; omega
    · have hke : k = l.length := by omega
      subst hke
      rw [List.take_length] at hI
      go_wp2
      go_end0
      exact ⟨rfl, v1, hI, hg⟩
def lookStep (k : ByteArray) (a x : S98) : S98 := if x.f0.toList = k.toList then x else a
def lookF (L : List S98) (k : ByteArray) : S98 := L.foldl (lookStep k) ⟨k, false, ⟨#[]⟩, 0⟩
def refGetF (L : List S98) (l : List ByteArray) : List S98 := l.map (lookF L)
theorem lookF_snoc (L : List S98) (x : S98) (k : ByteArray) : lookF (L ++ [x]) k = lookStep k (lookF L k) x := by
  unfold lookF
  rw [List.foldl_append]
  rfl
def box98 (x : S98) : Obj := .cells #[.string x.f0, .bool x.f1, .string x.f2, .int .u32 x.f3] 98 (0, 0)
theorem box_put {W : World} {g : Nat} {a : S98} (h : W.heap[g]? = some (box98 a)) (y : S98) : ((((W.setCell ⟨g, 0, none⟩ (.string y.f0)).setCell ⟨g, 1, none⟩ (.bool y.f1)).setCell ⟨g, 2, none⟩ (.string y.f2)).setCell ⟨g, 3, none⟩ (.int .u32 y.f3)).heap[g]? = some (box98 y) := by
  simp [World.setCell, Array.getElem?_modify, h, box98]
theorem box_below {B : Nat} {w W : World} {g : Nat} (hb : Below B w W) (hg : B ≤ g) (y : S98) : Below B w ((((W.setCell ⟨g, 0, none⟩ (.string y.f0)).setCell ⟨g, 1, none⟩ (.bool y.f1)).setCell ⟨g, 2, none⟩ (.string y.f2)).setCell ⟨g, 3, none⟩ (.int .u32 y.f3)) :=
  ((((hb.setCell (p := ⟨g, 0, none⟩) hg _).setCell (p := ⟨g, 1, none⟩) hg _).setCell (p := ⟨g, 2, none⟩) hg _).setCell (p := ⟨g, 3, none⟩) hg _)
set_option maxHeartbeats 8000000 in
set_option maxRecDepth 100000 in
theorem ref_Get (b : Nat) (Av : Option Addr) (cv : Nat) (L : List S98) (A : Option Addr) (c : Nat) (l : List ByteArray) (w : World) (hc : w.cell? ⟨b, 0, none⟩ = some (.slice Av L.length cv)) (hC : Kd.C k98 w Av L.length L)
    (hr : Kd.C Kd.string w A l.length l) (hL : L.length ≤ 1048576) (hl : l.length ≤ 1048576) :
    Calls Tryd.prog 68 #[.pointer (some ⟨b, 0, none⟩), .slice A l.length c] w fun e w' => ∃ v' : Value, e = .returned v' ∧ Kd.R k98 98 w' w.heap.size (fun _ => True) v' (refGetF L l) ∧ Below w.heap.size w w' := by
  have hblt := World.block_lt_of_cell? w _ hc
  simp only at hblt
  go_enter Tryd.func68, Tryd.ntmps68
  go_wp2
  go_loopw [5, 6] (fun v1 i wr => ∃ k : Nat, k ≤ l.length ∧ i = .int .i64 k ∧ Kd.R k98 98 wr w.heap.size (fun _ => True) v1 (refGetF L (l.take k)) ∧ Below w.heap.size w wr) (fun _ i _ => l.length - (intOf i).toNat)
  case atStart => exact ⟨0, Nat.zero_le _, rfl, Kd.R_nil _ _ _ _ _, Below.refl _ _⟩
  case round =>
    obtain ⟨k, hkl, rfl, hR, hb⟩ := hrel
    by_cases hlt : k < l.length
    · obtain ⟨ad, e, c0⟩ := Kd.at_string hr k (by omega) (by omega)
      cases e
      rw [rdstr2 hlt] at c0
      have hsn : refGetF L (l.take (k + 1)) = refGetF L (l.take k) ++ [lookF L l[k]] := by
        rw [List.take_succ_eq_append_getElem hlt]
        simp only [refGetF, List.map_append, List.map_cons, List.map_nil]
      obtain ⟨x, hx⟩ : ∃ x, x = l[k] := ⟨_, rfl⟩
      rw [← hx] at c0 hsn
      have Hsn := Lib.hid hsn
      clear hsn hx
      simp only [Int.toNat_natCast] at c0
      have c0w := c0
      replace c0 := (hb.cell (World.block_lt_of_cell? w _ c0)).trans c0
      go_wp2
      obtain ⟨wo, rfl⟩ : ∃ wo : World, wo = wr := ⟨_, rfl⟩
      have hbk := heap_alloc_new wo (box98 ⟨x, false, ⟨#[]⟩, 0⟩)
      go_loopw [8] (fun i wi => ∃ j : Nat, j ≤ L.length ∧ i = .int .i64 j ∧ wi.heap[wo.heap.size]? = some (box98 (lookF (L.take j) x)) ∧ Below wo.heap.size wo wi) (fun i _ => L.length - (intOf i).toNat)
      case atStart => exact ⟨0, Nat.zero_le _, rfl, hbk, below_alloc (Below.refl _ _) _⟩
      case round =>
        clear hbk
        obtain ⟨j, hjl, rfl, hbk, hbi⟩ := hrel
        have hbm : Below w.heap.size w wr := below_then hb hb.size hbi
        have hc1 := (hbm.cell (p := ⟨b, 0, none⟩) hblt).trans hc
        replace c0 := (hbi.cell (World.block_lt_of_cell? wo _ c0)).trans c0
        obtain ⟨cur, hcur⟩ : ∃ cur, cur = lookF (L.take j) x := ⟨_, rfl⟩
        rw [← hcur] at hbk
        have Hcur := Lib.hid hcur
        clear hcur
        obtain ⟨ck, ci, cw, cf⟩ := cur
        have z0 : wr.cell? ⟨wo.heap.size, 0, none⟩ = some (.string ck) := Lib.cell_of_heap hbk 0
        have z1 : wr.cell? ⟨wo.heap.size, 1, none⟩ = some (.bool ci) := Lib.cell_of_heap hbk 1
        have z2 : wr.cell? ⟨wo.heap.size, 2, none⟩ = some (.string cw) := Lib.cell_of_heap hbk 2
        have z3 : wr.cell? ⟨wo.heap.size, 3, none⟩ = some (.int .u32 cf) := Lib.cell_of_heap hbk 3
        by_cases hlj : j < L.length
        · obtain ⟨adv, e, y0, y1, y2, y3⟩ := at_T98 (Kd.C_below hC hbm) j (by omega) (by omega)
          cases e
          rw [rd98 hlj] at y0 y1 y2 y3
          have hsj := lookF_snoc (L.take j) L[j] x
          rw [← List.take_succ_eq_append_getElem hlj] at hsj
          obtain ⟨y, hy⟩ : ∃ y, y = L[j] := ⟨_, rfl⟩
          rw [← hy] at y0 y1 y2 y3 hsj
          simp only [Int.toNat_natCast] at y0 y1 y2 y3
          clear hy
          obtain ⟨yk, yi, yv, yf⟩ := y
          by_cases hs : yk.toList = x.toList
          · have c1 : (yk.toList == x.toList) = true := beq_iff_eq.mpr hs
            have e0 : ∀ a, lookStep x a ⟨yk, yi, yv, yf⟩ = ⟨yk, yi, yv, yf⟩ := fun a => by rw [lookStep, if_pos hs]
            rw [e0] at hsj
            have Hsj := Lib.hid hsj
            clear hs hsj e0
            have fz0 : wr.frozen? ⟨wo.heap.size, 0, none⟩ = false := Lib.frozen_of_heap hbk 0
            have fz1 : wr.frozen? ⟨wo.heap.size, 1, none⟩ = false := Lib.frozen_of_heap hbk 1
            have fz2 : wr.frozen? ⟨wo.heap.size, 2, none⟩ = false := Lib.frozen_of_heap hbk 2
            have fz3 : wr.frozen? ⟨wo.heap.size, 3, none⟩ = false := Lib.frozen_of_heap hbk 3
            go_wp2
            go_quiet (fail)
            go_wp2
            go_roundw
            case rel => exact ⟨j + 1, hlj, by simp, by rw [Hsj.out]; exact box_put (W := wr.drewN _) hbk ⟨yk, yi, yv, yf⟩, box_below (pw_below_drewN hbi _) (Nat.le_refl _) ⟨yk, yi, yv, yf⟩⟩
            case measure => simp [intOf]; omega
          · have c1 : (yk.toList == x.toList) = false := beq_eq_false_iff_ne.mpr hs
            have e0 : ∀ a, lookStep x a ⟨yk, yi, yv, yf⟩ = a := fun a => by rw [lookStep, if_neg hs]
            rw [e0] at hsj
            have Hsj := Lib.hid hsj
            clear hs hsj e0
            go_wp2
            go_quiet (fail)
            go_wp2
            go_roundw
            case rel => exact ⟨j + 1, hlj, by simp, by rw [Hsj.out, ← Hcur.out]; exact hbk, pw_below_drewN hbi _⟩
            case measure => simp [intOf]; omega
        · have hje : j = L.length := by omega
          subst hje
          have hcl := Hcur.out
          rw [List.take_length] at hcl
          rw [← hcl] at Hsn
          clear hcl
          have hlen : (refGetF L (l.take k)).length ≤ 1048576 := by simp only [refGetF, List.length_map]; have := List.length_take_le k l; omega
          have hR3 := Kd.R_below hR hbi
          go_wp2_with (at_builtin; refine Kd.R_append k98 (w0 := w) w.heap.size rfl (.tmp 49) (.tmp 51) 41 98 (.agg #[(.string ⟨#[]⟩), (.bool false), (.string ⟨#[]⟩), (.int .u32 0)]) 48 rfl Tryd.underlying41 info98 rfl (by decide) (by omega) u5 (refGetF L (l.take k)) ⟨ck, ci, cw, cf⟩ [.string ck, .bool ci, .string cw, .int .u32 cf] (fun _ => True) (fun _ => False) rfl (by first | (go_simp; done) | (go_simp; rfl)) (k98_mkM _ _ _ ⟨ck, ci, cw, cf⟩) (fun _ hk => hk.elim) (fun _ _ => trivial) hR3 hbm hbm.size ?aL ?_)
          case aL => omega
          intro v1 w1 hR1 hb1 _ _
          rw [← Hsn.out] at hR1
          clear hR hR3
          go_wp2
          go_roundw
          case rel => exact ⟨k + 1, hlt, by simp, hR1, hb1⟩
          case measure => simp [intOf]; omega
    · have hke : k = l.length := by omega
      subst hke
      rw [List.take_length] at hR
      go_wp2
      go_ret
      exact ⟨_, rfl, hR, hb⟩
end Go.Proofs.YtfaelejeihmgcaaDoor.Lgx
end

section
namespace Go.Proofs.YtfaelejeihmgcaaDoor.Lgx
open Go.RowKit Go.Proofs.YtfaelejeihmgcaaDoorW.PrintWords Go.Proofs.YtfaelejeihmgcaaDoorW.PrintLast Go.Proofs.YtfaelejeihmgcaaDoorW.PrintMore
attribute [local go_sem] max2_int min2_int max_two min_two max_three min_three max_four min_four   -- for this text's walks alone
set_option linter.unusedVariables false
set_option linter.unusedSimpArgs false
def cachepotref1_BatchFind.l0 : Nat → List (S101) → ByteArray → Int → Option (ByteArray × Bool × ByteArray × Bool)
  | 0, _, _, _ => none
  | k + 1, x0, x1, x6 => if x6 ≥ 0 then (if 0 ≤ x6 then (if x6 < (x0.length : Int) then (if ((rd_T101 x0 x6).f0).toList = x1.toList then (some ((rd_T101 x0 x6).f0, (rd_T101 x0 x6).f1, (rd_T101 x0 x6).f2, true)) else (cachepotref1_BatchFind.l0 k x0 x1 (wrap64 (x6 - 1)))) else (none)) else (none)) else (some ((⟨#[]⟩ : ByteArray), false, (⟨#[]⟩ : ByteArray), false))
def cachepotref1_BatchFind.f (k : Nat) (l0 : List (S101)) (a1 : ByteArray) : Option (ByteArray × Bool × ByteArray × Bool) := cachepotref1_BatchFind.l0 k l0 a1 (wrap64 ((l0.length : Int) - 1))
set_option maxHeartbeats 8000000 in
set_option maxRecDepth 100000 in
theorem cachepotref1_BatchFind.calls (k : Nat) (A0 : Option Addr) (c0 : Nat) (l0 : List (S101)) (a1 : ByteArray) (r1 : ByteArray) (r2 : Bool) (r3 : ByteArray) (r4 : Bool) (w : World) (hr0 : Kd.C k101 w A0 l0.length l0) (hc0 : l0.length ≤ c0) (h : cachepotref1_BatchFind.f k l0 a1 = some (r1, r2, r3, r4)) :
    Calls Tryd.prog 107 #[.slice A0 l0.length c0, .string a1] w fun e w' => e = .returned (.tuple #[.agg #[.string r1, .bool r2, .string r3], .bool r4]) ∧ Below w.heap.size w w' := by
  have hu101 := Tryd.underlying101
  have HR0 := Aside0.mk hr0
  have HC0 := Aside0.mk hc0
  clear hr0 hc0
  have HB := Aside0.mk (Below.refl w.heap.size w)
  have H : (cachepotref1_BatchFind.l0 k l0 a1 (wrap64 ((l0.length : Int) - 1))) = some (r1, r2, r3, r4) := h
  clear h
  have H' := Aside0.mk H
  clear H
  go_enter Tryd.func107, Tryd.ntmps107
  go_wp2_with (first | ((with_reducible refine gate_dst (N := 4) rfl ?_); refine box_event ?hg (N := 4) ?hd (cs := #[.string (⟨#[]⟩ : ByteArray), .bool false, .string (⟨#[]⟩ : ByteArray)]) (t := 101) ?hr ?_; (case hd => rfl); (case hg => rfl); (case hr => first | (go_simp; done) | (go_simp; rfl)); intro gb215 hg w3 hbox hb; have n0_ := Aside0.mk (below_step (by repeat (first | (with_reducible first | exact HB.out | apply below_alloc | apply pw_below_drewN | apply below_drew1) | exact HB.out)) hb); have n1_ := Aside0.mk (hbox); have n2_ := Aside0.mk ((by rw [hg]; exact (below_size (by repeat (first | (with_reducible first | exact HB.out | apply below_alloc | apply pw_below_drewN | apply below_drew1) | exact HB.out))) : w.heap.size ≤ gb215)); have n3_ := Aside0.mk ((by rw [hg]; exact (below_size (by repeat (first | (with_reducible first | exact HB.out | apply below_alloc | apply pw_below_drewN | apply below_drew1) | exact HB.out))) : w.heap.size ≤ gb215)); clear HB; have HB := n0_; have BK215 := n1_; have GW215 := n2_; have GE215 := n3_; clear n0_ n1_ n2_ n3_; clear hb hbox hg))
  go_loopg [6] k (fun kq v6 w' => ∃ (x6_1 : Int) (x216000_1 : ByteArray) (x216001_1 : Bool) (x216002_1 : ByteArray), v6 = .int .i64 x6_1 ∧ Aside0 (cachepotref1_BatchFind.l0 kq l0 a1 x6_1 = some (r1, r2, r3, r4)) ∧ Aside0 (kq ≤ k) ∧ Aside0 (w'.heap[gb215]? = some (.cells #[.string x216000_1, .bool x216001_1, .string x216002_1] 101 (0, 0))) ∧ Aside0 (Below w.heap.size w w'))
  case atStart => exact ⟨(wrap64 ((l0.length : Int) - 1)), ((⟨#[]⟩ : ByteArray)), (false), ((⟨#[]⟩ : ByteArray)), (by first | rfl | (simp; done) | (simp [*]; done)), H', ⟨Nat.le_refl _⟩, ⟨by (with_reducible repeat (first | refine blk_drewN ?_ _ | refine blk_drew ?_ | refine blk_alloc ?_ _)); exact BK215.out⟩, ⟨by repeat (first | (with_reducible first | exact HB.out | apply below_alloc | apply pw_below_drewN | apply below_drew1 | refine below_set ?_ GE215.out) | exact HB.out)⟩⟩
  case round =>
    clear H'
    try clear c1
    try clear p2
    obtain ⟨x6_1, x216000_1, x216001_1, x216002_1, rfl, HA, HK1, BK215, HB⟩ := hrel
    cases gk with
    | zero => exact absurd HA.out (by simp [cachepotref1_BatchFind.l0])
    | succ k1 =>
      have H := HA.out
      clear HA
      simp only [cachepotref1_BatchFind.l0] at H
      by_cases c4 : x6_1 ≥ 0
      · rw [if_pos c4] at H
        have c4b0 : decide (0 ≤ x6_1) = true := decide_eq_true c4
        clear c4
        by_cases c5 : 0 ≤ x6_1
        · rw [if_pos c5] at H
          have c5b0 : decide (0 ≤ x6_1) = true := decide_eq_true c5
          clear c5
          by_cases c6 : x6_1 < (l0.length : Int)
          · rw [if_pos c6] at H
            have c6b0 : decide (x6_1 < (l0.length : Int)) = true := decide_eq_true c6
            clear c6
            by_cases c7 : ((rd_T101 l0 x6_1).f0).toList = a1.toList
            · rw [if_pos c7] at H
              have c7b0 : (((rd_T101 l0 x6_1).f0).toList == a1.toList) = true := beq_iff_eq.mpr c7
              have c7b1 : (((rd_T101 l0 x6_1).f0).toList != a1.toList) = false := bne_eq_false_iff_eq.mpr c7
              clear c7
              simp only [Option.some.injEq, Prod.mk.injEq] at H
              obtain ⟨rfl, rfl, rfl, rfl⟩ := H
              have p216 : 0 ≤ (x6_1 : Int) := of_decide_eq_true (by first | (with_reducible assumption) | assumption)
              have q216 : x6_1 < (l0.length : Int) := of_decide_eq_true (by first | (with_reducible assumption) | assumption)
              obtain ⟨ad216, e216, hx216_0, hx216_1, hx216_2⟩ := at_T101 HR0.out x6_1 p216 q216
              cases e216
              replace hx216_0 := (HB.out.cell (World.block_lt_of_cell? w _ hx216_0)).trans hx216_0
              replace hx216_1 := (HB.out.cell (World.block_lt_of_cell? w _ hx216_1)).trans hx216_1
              replace hx216_2 := (HB.out.cell (World.block_lt_of_cell? w _ hx216_2)).trans hx216_2
              replace p216 := eq_true p216
              replace q216 := eq_true q216
              have p217 : 0 ≤ (x6_1 : Int) := of_decide_eq_true (by first | (with_reducible assumption) | assumption)
              have q217 : x6_1 < (l0.length : Int) := of_decide_eq_true (by first | (with_reducible assumption) | assumption)
              obtain ⟨ad217, e217, hx217_0, hx217_1, hx217_2⟩ := at_T101 HR0.out x6_1 p217 q217
              obtain rfl : ad216 = ad217 := (by injection e217)
              replace hx217_0 := (HB.out.cell (World.block_lt_of_cell? w _ hx217_0)).trans hx217_0
              replace hx217_1 := (HB.out.cell (World.block_lt_of_cell? w _ hx217_1)).trans hx217_1
              replace hx217_2 := (HB.out.cell (World.block_lt_of_cell? w _ hx217_2)).trans hx217_2
              replace p217 := eq_true p217
              replace q217 := eq_true q217
              have hcz8_0 : wr.cell? ⟨gb215, 0, none⟩ = some (.string x216000_1) := (blk_cell BK215.out 0).trans rfl
              have hcz8_1 : wr.cell? ⟨gb215, 1, none⟩ = some (.bool x216001_1) := (blk_cell BK215.out 1).trans rfl
              have hcz8_2 : wr.cell? ⟨gb215, 2, none⟩ = some (.string x216002_1) := (blk_cell BK215.out 2).trans rfl
              have hfz8_0 := blk_frozen BK215.out 0
              have hfz8_1 := blk_frozen BK215.out 1
              have hfz8_2 := blk_frozen BK215.out 2
              go_wp2
              refine bodyPost_ret (results_ct rfl _ _ gb215 101 #[.string ((rd_T101 l0 x6_1).f0), .bool ((rd_T101 l0 x6_1).f1), .string ((rd_T101 l0 x6_1).f2)] (0, 0) _ rfl (by (with_reducible repeat (first | refine blk_drewN ?_ _ | refine blk_drew ?_ | refine blk_alloc ?_ _)); refine blk_put (cs := #[.string ((rd_T101 l0 x6_1).f0), .bool ((rd_T101 l0 x6_1).f1), .string x216002_1]) ?_ 2 _ rfl; (with_reducible repeat (first | refine blk_drewN ?_ _ | refine blk_drew ?_ | refine blk_alloc ?_ _)); refine blk_put (cs := #[.string ((rd_T101 l0 x6_1).f0), .bool x216001_1, .string x216002_1]) ?_ 1 _ rfl; (with_reducible repeat (first | refine blk_drewN ?_ _ | refine blk_drew ?_ | refine blk_alloc ?_ _)); refine blk_put (cs := #[.string x216000_1, .bool x216001_1, .string x216002_1]) ?_ 0 _ rfl; (with_reducible repeat (first | refine blk_drewN ?_ _ | refine blk_drew ?_ | refine blk_alloc ?_ _)); exact BK215.out) Tryd.underlying101 rfl (by kernel_rfl)) rfl ?_
              exact ⟨by first | rfl | (simp [errW_none, errW_some] <;> rfl) | (simp [*, errW_none, errW_some] <;> rfl), by repeat (first | (with_reducible first | exact HB.out | apply below_alloc | apply pw_below_drewN | apply below_drew1 | refine below_set ?_ GE215.out) | exact HB.out)⟩
            · rw [if_neg c7] at H
              have c7b0 : (((rd_T101 l0 x6_1).f0).toList == a1.toList) = false := beq_eq_false_iff_ne.mpr c7
              have c7b1 : (((rd_T101 l0 x6_1).f0).toList != a1.toList) = true := bne_iff_ne.mpr c7
              have H' := Aside0.mk H
              clear H
              have p216 : 0 ≤ (x6_1 : Int) := of_decide_eq_true (by first | (with_reducible assumption) | assumption)
              have q216 : x6_1 < (l0.length : Int) := of_decide_eq_true (by first | (with_reducible assumption) | assumption)
              obtain ⟨ad216, e216, hx216_0, hx216_1, hx216_2⟩ := at_T101 HR0.out x6_1 p216 q216
              cases e216
              replace hx216_0 := (HB.out.cell (World.block_lt_of_cell? w _ hx216_0)).trans hx216_0
              replace hx216_1 := (HB.out.cell (World.block_lt_of_cell? w _ hx216_1)).trans hx216_1
              replace hx216_2 := (HB.out.cell (World.block_lt_of_cell? w _ hx216_2)).trans hx216_2
              replace p216 := eq_true p216
              replace q216 := eq_true q216
              go_wp2
              go_roundg k1
              case measure => have := HK1.out; omega
              case rel => exact ⟨(wrap64 (x6_1 - 1)), (x216000_1), (x216001_1), (x216002_1), (by first | rfl | (simp; done) | (simp [*]; done)), H', ⟨by have := HK1.out; omega⟩, ⟨by (with_reducible repeat (first | refine blk_drewN ?_ _ | refine blk_drew ?_ | refine blk_alloc ?_ _)); exact BK215.out⟩, ⟨by repeat (first | (with_reducible first | exact HB.out | apply below_alloc | apply pw_below_drewN | apply below_drew1 | refine below_set ?_ GE215.out) | exact HB.out)⟩⟩
          · rw [if_neg c6] at H
            exact absurd H (by simp)
        · rw [if_neg c5] at H
          exact absurd H (by simp)
      · rw [if_neg c4] at H
        have c4b0 : decide (0 ≤ x6_1) = false := decide_eq_false c4
        clear c4
        simp only [Option.some.injEq, Prod.mk.injEq] at H
        obtain ⟨rfl, rfl, rfl, rfl⟩ := H
        have hcz9_0 : wr.cell? ⟨gb215, 0, none⟩ = some (.string x216000_1) := (blk_cell BK215.out 0).trans rfl
        have hcz9_1 : wr.cell? ⟨gb215, 1, none⟩ = some (.bool x216001_1) := (blk_cell BK215.out 1).trans rfl
        have hcz9_2 : wr.cell? ⟨gb215, 2, none⟩ = some (.string x216002_1) := (blk_cell BK215.out 2).trans rfl
        have hfz9_0 := blk_frozen BK215.out 0
        have hfz9_1 := blk_frozen BK215.out 1
        have hfz9_2 := blk_frozen BK215.out 2
        go_wp2
        refine bodyPost_ret (results_ct rfl _ _ gb215 101 #[.string (⟨#[]⟩ : ByteArray), .bool false, .string (⟨#[]⟩ : ByteArray)] (0, 0) _ rfl (by (with_reducible repeat (first | refine blk_drewN ?_ _ | refine blk_drew ?_ | refine blk_alloc ?_ _)); refine blk_put (cs := #[.string (⟨#[]⟩ : ByteArray), .bool false, .string x216002_1]) ?_ 2 _ rfl; (with_reducible repeat (first | refine blk_drewN ?_ _ | refine blk_drew ?_ | refine blk_alloc ?_ _)); refine blk_put (cs := #[.string (⟨#[]⟩ : ByteArray), .bool x216001_1, .string x216002_1]) ?_ 1 _ rfl; (with_reducible repeat (first | refine blk_drewN ?_ _ | refine blk_drew ?_ | refine blk_alloc ?_ _)); refine blk_put (cs := #[.string x216000_1, .bool x216001_1, .string x216002_1]) ?_ 0 _ rfl; (with_reducible repeat (first | refine blk_drewN ?_ _ | refine blk_drew ?_ | refine blk_alloc ?_ _)); exact BK215.out) Tryd.underlying101 rfl (by kernel_rfl)) rfl ?_
        exact ⟨by first | rfl | (simp [errW_none, errW_some] <;> rfl) | (simp [*, errW_none, errW_some] <;> rfl), by repeat (first | (with_reducible first | exact HB.out | apply below_alloc | apply pw_below_drewN | apply below_drew1 | refine below_set ?_ GE215.out) | exact HB.out)⟩
def cachepotref1_follows.f (a0 : ByteArray) (a1 : Int) (a2 : Int) (a3 : Int) : Option (Bool) := if a1 < (a0.size : Int) then (if 0 ≤ a1 then (if (bt a0 a1) ≥ a2 then (some (decide ((bt a0 a1) ≤ a3))) else (some false)) else (none)) else (some false)
set_option maxHeartbeats 8000000 in
set_option maxRecDepth 100000 in
theorem cachepotref1_follows.calls (a0 : ByteArray) (a1 : Int) (a2 : Int) (a3 : Int) (r : Bool) (w : World) (h : cachepotref1_follows.f a0 a1 a2 a3 = some r) :
    Calls Tryd.prog 95 #[.string a0, .int .i64 a1, .int .u8 a2, .int .u8 a3] w fun e w' => e = .returned (.bool r) ∧ Drawn0 w w' := by
  have H : (if a1 < (a0.size : Int) then (if 0 ≤ a1 then (if (bt a0 a1) ≥ a2 then (some (decide ((bt a0 a1) ≤ a3))) else (some false)) else (none)) else (some false)) = some r := h
  clear h
  by_cases c5 : a1 < (a0.size : Int)
  · rw [if_pos c5] at H
    have c5b0 : decide (a1 < (a0.size : Int)) = true := decide_eq_true c5
    clear c5
    by_cases c6 : 0 ≤ a1
    · rw [if_pos c6] at H
      have c6b0 : decide (0 ≤ a1) = true := decide_eq_true c6
      clear c6
      by_cases c8 : (bt a0 a1) ≥ a2
      · rw [if_pos c8] at H
        have c8b0 : decide (a2 ≤ (bt a0 a1)) = true := decide_eq_true c8
        clear c8
        obtain rfl := Option.some.inj H
        have p7 : 0 ≤ (a1 : Int) := of_decide_eq_true (by first | (with_reducible assumption) | assumption)
        have q7 : a1 < (a0.size : Int) := of_decide_eq_true (by first | (with_reducible assumption) | assumption)
        have hx7 := bt_at a0 a1
        replace p7 := eq_true p7
        replace q7 := eq_true q7
        have p9 : 0 ≤ (a1 : Int) := of_decide_eq_true (by first | (with_reducible assumption) | assumption)
        have q9 : a1 < (a0.size : Int) := of_decide_eq_true (by first | (with_reducible assumption) | assumption)
        have hx9 := bt_at a0 a1
        replace p9 := eq_true p9
        replace q9 := eq_true q9
        go_enter Tryd.func95, Tryd.ntmps95
        go_wp2
        go_ret
        exact ⟨by first | rfl | (simp; done) | (simp [*]; done), by repeat (first | exact Drawn0.refl _ | apply Drawn0.step)⟩
      · rw [if_neg c8] at H
        have c8b0 : decide (a2 ≤ (bt a0 a1)) = false := decide_eq_false c8
        clear c8
        obtain rfl := Option.some.inj H
        have p7 : 0 ≤ (a1 : Int) := of_decide_eq_true (by first | (with_reducible assumption) | assumption)
        have q7 : a1 < (a0.size : Int) := of_decide_eq_true (by first | (with_reducible assumption) | assumption)
        have hx7 := bt_at a0 a1
        replace p7 := eq_true p7
        replace q7 := eq_true q7
        go_enter Tryd.func95, Tryd.ntmps95
        go_wp2
        go_ret
        exact ⟨by first | rfl | (simp; done) | (simp [*]; done), by repeat (first | exact Drawn0.refl _ | apply Drawn0.step)⟩
    · rw [if_neg c6] at H
      exact absurd H (by simp)
  · rw [if_neg c5] at H
    have c5b0 : decide (a1 < (a0.size : Int)) = false := decide_eq_false c5
    clear c5
    obtain rfl := Option.some.inj H
    go_enter Tryd.func95, Tryd.ntmps95
    go_wp2
    go_ret
    exact ⟨by first | rfl | (simp; done) | (simp [*]; done), by repeat (first | exact Drawn0.refl _ | apply Drawn0.step)⟩
end Go.Proofs.YtfaelejeihmgcaaDoor.Lgx
end

section
namespace Go.Proofs.YtfaelejeihmgcaaDoor.Lgx
open Go.RowKit Go.Proofs.YtfaelejeihmgcaaDoorW.PrintWords Go.Proofs.YtfaelejeihmgcaaDoorW.PrintLast Go.Proofs.YtfaelejeihmgcaaDoorW.PrintMore
attribute [local go_sem] max2_int min2_int max_two min_two max_three min_three max_four min_four   -- for this text's walks alone
set_option linter.unusedVariables false
set_option linter.unusedSimpArgs false
mutual
def cachepotref1_Rune.j0 : Nat → ByteArray → Int → Int → Option (Int × Int)
  | 0, _, _, _ => none
  | k + 1, x0, x1, x6 => if x6 = 224 then (cachepotref1_Rune.j1 k x0 x1 x6 160 191) else (if x6 = 237 then (cachepotref1_Rune.j1 k x0 x1 x6 128 159) else (if x6 = 240 then (cachepotref1_Rune.j1 k x0 x1 x6 144 191) else (if x6 = 244 then (cachepotref1_Rune.j1 k x0 x1 x6 128 143) else (cachepotref1_Rune.j1 k x0 x1 x6 128 191))))
def cachepotref1_Rune.j1 : Nat → ByteArray → Int → Int → Int → Int → Option (Int × Int)
  | 0, _, _, _, _, _ => none
  | k + 1, x0, x1, x6, x7, x8 => if x6 ≥ 224 then (if x6 ≤ 239 then ((cachepotref1_follows.f x0 (wrap64 (x1 + 1)) x7 x8).bind fun t219 => (if t219 = true then ((cachepotref1_follows.f x0 (wrap64 (x1 + 2)) 128 191).bind fun t220 => (cachepotref1_Rune.j2 k x0 x1 x6 x7 x8 t220)) else (cachepotref1_Rune.j2 k x0 x1 x6 x7 x8 false))) else (cachepotref1_Rune.j2 k x0 x1 x6 x7 x8 false)) else (cachepotref1_Rune.j2 k x0 x1 x6 x7 x8 false)
def cachepotref1_Rune.j2 : Nat → ByteArray → Int → Int → Int → Int → Bool → Option (Int × Int)
  | 0, _, _, _, _, _, _ => none
  | k + 1, x0, x1, x6, x7, x8, x69 => if x69 = true then (if 0 ≤ (wrap64 (x1 + 1)) then (if (wrap64 (x1 + 1)) < (x0.size : Int) then (if 0 ≤ (wrap64 (x1 + 2)) then (if (wrap64 (x1 + 2)) < (x0.size : Int) then (some (wrap64 ((wrap64 ((wrap64 ((wrap64 (Go.bits .and .u8 x6 15)) * 4096)) + (wrap64 ((wrap64 (Go.bits .and .u8 (bt x0 (wrap64 (x1 + 1))) 63)) * 64)))) + (wrap64 (Go.bits .and .u8 (bt x0 (wrap64 (x1 + 2))) 63))), 3)) else (none)) else (none)) else (none)) else (none)) else (if x6 ≥ 240 then (if x6 ≤ 244 then ((cachepotref1_follows.f x0 (wrap64 (x1 + 1)) x7 x8).bind fun t221 => (if t221 = true then ((cachepotref1_follows.f x0 (wrap64 (x1 + 2)) 128 191).bind fun t222 => (if t222 = true then ((cachepotref1_follows.f x0 (wrap64 (x1 + 3)) 128 191).bind fun t223 => (if t223 = true then (if 0 ≤ (wrap64 (x1 + 1)) then (if (wrap64 (x1 + 1)) < (x0.size : Int) then (if 0 ≤ (wrap64 (x1 + 2)) then (if (wrap64 (x1 + 2)) < (x0.size : Int) then (if 0 ≤ (wrap64 (x1 + 3)) then (if (wrap64 (x1 + 3)) < (x0.size : Int) then (some (wrap64 ((wrap64 ((wrap64 ((wrap64 ((wrap64 (Go.bits .and .u8 x6 7)) * 262144)) + (wrap64 ((wrap64 (Go.bits .and .u8 (bt x0 (wrap64 (x1 + 1))) 63)) * 4096)))) + (wrap64 ((wrap64 (Go.bits .and .u8 (bt x0 (wrap64 (x1 + 2))) 63)) * 64)))) + (wrap64 (Go.bits .and .u8 (bt x0 (wrap64 (x1 + 3))) 63))), 4)) else (none)) else (none)) else (none)) else (none)) else (none)) else (none)) else (some (65533, 1)))) else (some (65533, 1)))) else (some (65533, 1)))) else (some (65533, 1))) else (some (65533, 1)))
end
def cachepotref1_Rune.f (k : Nat) (a0 : ByteArray) (a1 : Int) : Option (Int × Int) := if 0 ≤ a1 then (if a1 < (a0.size : Int) then (if (bt a0 a1) < 128 then (some (wrap64 (bt a0 a1), 1)) else (if (bt a0 a1) ≥ 194 then (if (bt a0 a1) ≤ 223 then ((cachepotref1_follows.f a0 (wrap64 (a1 + 1)) 128 191).bind fun t218 => (if t218 = true then (if 0 ≤ (wrap64 (a1 + 1)) then (if (wrap64 (a1 + 1)) < (a0.size : Int) then (some (wrap64 ((wrap64 ((wrap64 (Go.bits .and .u8 (bt a0 a1) 31)) * 64)) + (wrap64 (Go.bits .and .u8 (bt a0 (wrap64 (a1 + 1))) 63))), 2)) else (none)) else (none)) else (cachepotref1_Rune.j0 k a0 a1 (bt a0 a1)))) else (cachepotref1_Rune.j0 k a0 a1 (bt a0 a1))) else (cachepotref1_Rune.j0 k a0 a1 (bt a0 a1)))) else (none)) else (none)
set_option maxHeartbeats 8000000 in
set_option maxRecDepth 100000 in
theorem cachepotref1_Rune.calls (k : Nat) (a0 : ByteArray) (a1 : Int) (r1 : Int) (r2 : Int) (w : World) (h : cachepotref1_Rune.f k a0 a1 = some (r1, r2)) :
    Calls Tryd.prog 60 #[.string a0, .int .i64 a1] w fun e w' => e = .returned (.tuple #[.int .i64 r1, .int .i64 r2]) ∧ Drawn0 w w' := by
  have H : (if 0 ≤ a1 then (if a1 < (a0.size : Int) then (if (bt a0 a1) < 128 then (some (wrap64 (bt a0 a1), 1)) else (if (bt a0 a1) ≥ 194 then (if (bt a0 a1) ≤ 223 then ((cachepotref1_follows.f a0 (wrap64 (a1 + 1)) 128 191).bind fun t218 => (if t218 = true then (if 0 ≤ (wrap64 (a1 + 1)) then (if (wrap64 (a1 + 1)) < (a0.size : Int) then (some (wrap64 ((wrap64 ((wrap64 (Go.bits .and .u8 (bt a0 a1) 31)) * 64)) + (wrap64 (Go.bits .and .u8 (bt a0 (wrap64 (a1 + 1))) 63))), 2)) else (none)) else (none)) else (cachepotref1_Rune.j0 k a0 a1 (bt a0 a1)))) else (cachepotref1_Rune.j0 k a0 a1 (bt a0 a1))) else (cachepotref1_Rune.j0 k a0 a1 (bt a0 a1)))) else (none)) else (none)) = some (r1, r2) := h
  clear h
  by_cases c3 : 0 ≤ a1
  · rw [if_pos c3] at H
    have c3b0 : decide (0 ≤ a1) = true := decide_eq_true c3
    clear c3
    by_cases c4 : a1 < (a0.size : Int)
    · rw [if_pos c4] at H
      have c4b0 : decide (a1 < (a0.size : Int)) = true := decide_eq_true c4
      clear c4
      have HC6 := Aside0.mk H
      clear H
      have p5 : 0 ≤ (a1 : Int) := of_decide_eq_true (by first | (with_reducible assumption) | assumption)
      have q5 : a1 < (a0.size : Int) := of_decide_eq_true (by first | (with_reducible assumption) | assumption)
      have hx5 := bt_at a0 a1
      replace p5 := eq_true p5
      replace q5 := eq_true q5
      go_enter Tryd.func60, Tryd.ntmps60
      go_upto_block 0 with (fail)
      repeat (go_quiet (fail); go_upto_block 0 with (fail))
      go_cut [] (fun wc => ∃ (kq : Nat), Aside0 (cachepotref1_Rune.j0 kq a0 a1 (bt a0 a1) = some (r1, r2)) ∧ Aside0 (kq ≤ k) ∧ Drawn0 w wc)
      case first =>
        have H := HC6.out
        clear HC6
        by_cases c7 : (bt a0 a1) < 128
        · rw [if_pos c7] at H
          have c7b0 : decide ((bt a0 a1) < 128) = true := decide_eq_true c7
          clear c7
          (first | rw [c7b0] | (simp only [i64_w, i32_w]; rw [c7b0]) | skip)
          simp only [Option.some.injEq, Prod.mk.injEq] at H
          obtain ⟨rfl, rfl⟩ := H
          go_wp2
          repeat (go_quiet (fail); try go_wp2)
          go_ret2
          exact ⟨by first | rfl | (simp; done) | (simp [*]; done), by repeat (first | exact Drawn0.refl _ | apply Drawn0.step)⟩
        · rw [if_neg c7] at H
          have c7b0 : decide ((bt a0 a1) < 128) = false := decide_eq_false c7
          clear c7
          (first | rw [c7b0] | (simp only [i64_w, i32_w]; rw [c7b0]) | skip)
          by_cases c8 : (bt a0 a1) ≥ 194
          · rw [if_pos c8] at H
            have c8b0 : decide (194 ≤ (bt a0 a1)) = true := decide_eq_true c8
            clear c8
            by_cases c9 : (bt a0 a1) ≤ 223
            · rw [if_pos c9] at H
              have c9b0 : decide ((bt a0 a1) ≤ 223) = true := decide_eq_true c9
              clear c9
              replace H := Option.bind_eq_some_iff.mp H
              obtain ⟨t218, A100, H⟩ := H
              replace H : (if t218 = true then (if 0 ≤ (wrap64 (a1 + 1)) then (if (wrap64 (a1 + 1)) < (a0.size : Int) then (some (wrap64 ((wrap64 ((wrap64 (Go.bits .and .u8 (bt a0 a1) 31)) * 64)) + (wrap64 (Go.bits .and .u8 (bt a0 (wrap64 (a1 + 1))) 63))), 2)) else (none)) else (none)) else (cachepotref1_Rune.j0 k a0 a1 (bt a0 a1))) = some (r1, r2) := H
              have A10 := Aside0.mk A100
              clear A100
              by_cases c11 : t218 = true
              · subst c11
                have H1 : (if 0 ≤ (wrap64 (a1 + 1)) then (if (wrap64 (a1 + 1)) < (a0.size : Int) then (some (wrap64 ((wrap64 ((wrap64 (Go.bits .and .u8 (bt a0 a1) 31)) * 64)) + (wrap64 (Go.bits .and .u8 (bt a0 (wrap64 (a1 + 1))) 63))), 2)) else (none)) else (none)) = some (r1, r2) := by rw [if_pos rfl] at H; exact H
                clear H
                have H := H1
                clear H1
                obtain ⟨ji12, hji12⟩ : ∃ j_ : Int, (wrap64 (a1 + 1)) = j_ := ⟨_, rfl⟩
                replace H : (if 0 ≤ (ji12) then (if (ji12) < (a0.size : Int) then (some (wrap64 ((wrap64 ((wrap64 (Go.bits .and .u8 (bt a0 a1) 31)) * 64)) + (wrap64 (Go.bits .and .u8 (bt a0 (ji12)) 63))), 2)) else (none)) else (none)) = some (r1, r2) := by first | (rw [hji12] at H; exact H) | (simp only [hji12] at H ⊢; exact H)
                (try rw [hji12] at A10)
                have hji12w : (IntKind.i64.wrap (a1 + 1)) = ji12 := (i64_w _).trans hji12
                by_cases c13 : 0 ≤ (ji12)
                · rw [if_pos c13] at H
                  have c13b0 : decide (0 ≤ (ji12)) = true := decide_eq_true c13
                  clear c13
                  by_cases c14 : (ji12) < (a0.size : Int)
                  · rw [if_pos c14] at H
                    have c14b0 : decide ((ji12) < (a0.size : Int)) = true := decide_eq_true c14
                    clear c14
                    simp only [Option.some.injEq, Prod.mk.injEq] at H
                    obtain ⟨rfl, rfl⟩ := H
                    go_wp2_with (first | (go_at_call 95; (with_reducible refine (cachepotref1_follows.calls a0 ji12 128 191 true _ A10.out).mono ?_); rintro e w' ⟨rfl, ⟨nd, rfl⟩⟩; (try first | exact ⟨rfl, _, World.drewN_drewN _ _ _⟩ | exact ⟨rfl, _, Eq.trans (World.drewN_drewN _ _ _) (congrArg (World.drewN _) (Nat.add_assoc _ _ _))⟩); have p15 : 0 ≤ ((ji12) : Int) := of_decide_eq_true (by first | (with_reducible assumption) | assumption); have q15 : (ji12) < (a0.size : Int) := of_decide_eq_true (by first | (with_reducible assumption) | assumption); have hx15 := bt_at a0 (ji12); replace p15 := eq_true p15; replace q15 := eq_true q15))
                    repeat (go_quiet (first | (go_at_call 95; (with_reducible refine (cachepotref1_follows.calls a0 ji12 128 191 true _ A10.out).mono ?_); rintro e w' ⟨rfl, ⟨nd, rfl⟩⟩; (try first | exact ⟨rfl, _, World.drewN_drewN _ _ _⟩ | exact ⟨rfl, _, Eq.trans (World.drewN_drewN _ _ _) (congrArg (World.drewN _) (Nat.add_assoc _ _ _))⟩); have p15 : 0 ≤ ((ji12) : Int) := of_decide_eq_true (by first | (with_reducible assumption) | assumption); have q15 : (ji12) < (a0.size : Int) := of_decide_eq_true (by first | (with_reducible assumption) | assumption); have hx15 := bt_at a0 (ji12); replace p15 := eq_true p15; replace q15 := eq_true q15)); try go_wp2_with (first | (go_at_call 95; (with_reducible refine (cachepotref1_follows.calls a0 ji12 128 191 true _ A10.out).mono ?_); rintro e w' ⟨rfl, ⟨nd, rfl⟩⟩; (try first | exact ⟨rfl, _, World.drewN_drewN _ _ _⟩ | exact ⟨rfl, _, Eq.trans (World.drewN_drewN _ _ _) (congrArg (World.drewN _) (Nat.add_assoc _ _ _))⟩); have p15 : 0 ≤ ((ji12) : Int) := of_decide_eq_true (by first | (with_reducible assumption) | assumption); have q15 : (ji12) < (a0.size : Int) := of_decide_eq_true (by first | (with_reducible assumption) | assumption); have hx15 := bt_at a0 (ji12); replace p15 := eq_true p15; replace q15 := eq_true q15)))
                    go_ret2
                    exact ⟨by first | rfl | (simp; done) | (simp only [← hji12] <;> (first | rfl | simp)) | (simp [*]; done), by repeat (first | exact Drawn0.refl _ | apply Drawn0.step)⟩
                  · rw [if_neg c14] at H
                    exact absurd H (by simp)
                · rw [if_neg c13] at H
                  exact absurd H (by simp)
              · replace c11 := Bool.eq_false_iff.mpr c11
                subst c11
                have H1 : (cachepotref1_Rune.j0 k a0 a1 (bt a0 a1)) = some (r1, r2) := by rw [if_neg (show ¬ (false = true) by decide)] at H; exact H
                clear H
                have H := H1
                clear H1
                have H' := Aside0.mk H
                clear H
                go_wp2_with (first | (go_at_call 95; (with_reducible refine (cachepotref1_follows.calls a0 (wrap64 (a1 + 1)) 128 191 false _ A10.out).mono ?_); rintro e w' ⟨rfl, ⟨nd, rfl⟩⟩; (try first | exact ⟨rfl, _, World.drewN_drewN _ _ _⟩ | exact ⟨rfl, _, Eq.trans (World.drewN_drewN _ _ _) (congrArg (World.drewN _) (Nat.add_assoc _ _ _))⟩)))
                repeat (go_quiet (first | (go_at_call 95; (with_reducible refine (cachepotref1_follows.calls a0 (wrap64 (a1 + 1)) 128 191 false _ A10.out).mono ?_); rintro e w' ⟨rfl, ⟨nd, rfl⟩⟩; (try first | exact ⟨rfl, _, World.drewN_drewN _ _ _⟩ | exact ⟨rfl, _, Eq.trans (World.drewN_drewN _ _ _) (congrArg (World.drewN _) (Nat.add_assoc _ _ _))⟩))); try go_wp2_with (first | (go_at_call 95; (with_reducible refine (cachepotref1_follows.calls a0 (wrap64 (a1 + 1)) 128 191 false _ A10.out).mono ?_); rintro e w' ⟨rfl, ⟨nd, rfl⟩⟩; (try first | exact ⟨rfl, _, World.drewN_drewN _ _ _⟩ | exact ⟨rfl, _, Eq.trans (World.drewN_drewN _ _ _) (congrArg (World.drewN _) (Nat.add_assoc _ _ _))⟩))))
                go_meet
                case rel => exact ⟨_, H', ⟨by first | omega | exact Nat.le_refl _⟩, by repeat (first | exact Drawn0.refl _ | apply Drawn0.step)⟩
            · rw [if_neg c9] at H
              have c9b0 : decide ((bt a0 a1) ≤ 223) = false := decide_eq_false c9
              clear c9
              have H' := Aside0.mk H
              clear H
              go_wp2
              repeat (go_quiet (fail); try go_wp2)
              go_meet
              case rel => exact ⟨_, H', ⟨by first | omega | exact Nat.le_refl _⟩, by repeat (first | exact Drawn0.refl _ | apply Drawn0.step)⟩
          · rw [if_neg c8] at H
            have c8b0 : decide (194 ≤ (bt a0 a1)) = false := decide_eq_false c8
            clear c8
            have H' := Aside0.mk H
            clear H
            go_wp2
            repeat (go_quiet (fail); try go_wp2)
            go_meet
            case rel => exact ⟨_, H', ⟨by first | omega | exact Nat.le_refl _⟩, by repeat (first | exact Drawn0.refl _ | apply Drawn0.step)⟩
      case rest =>
        clear HC6
        try clear c1
        try clear p1
        try clear q1
        try clear hx1
        try clear p2
        try clear c3
        try clear c3b0
        try clear c4
        try clear c4b0
        try clear p5
        try clear q5
        try clear hx5
        try clear c6
        try clear p6
        try clear c7
        try clear c7b0
        try clear c8
        try clear c8b0
        try clear c9
        try clear c9b0
        try clear c11
        try clear c13
        try clear c13b0
        try clear c14
        try clear c14b0
        try clear p15
        try clear q15
        try clear hx15
        try clear p15
        try clear p5
        try clear q15
        try clear q5
        obtain ⟨kq, HA, HJ5, ⟨mc5, rfl⟩⟩ := hcut
        cases kq with
        | zero => exact absurd HA.out (by simp [cachepotref1_Rune.j0])
        | succ kj5 =>
          have H := HA.out
          clear HA
          simp only [cachepotref1_Rune.j0] at H
          have HC16 := Aside0.mk H
          clear H
          go_upto_block 1 with (fail)
          repeat (go_quiet (fail); go_upto_block 1 with (fail))
          go_cut [7, 8] (fun v7 v8 wc => ∃ (kq : Nat) (x7_15 : Int) (x8_15 : Int), v7 = .int .u8 x7_15 ∧ v8 = .int .u8 x8_15 ∧ Aside0 (cachepotref1_Rune.j1 kq a0 a1 (bt a0 a1) x7_15 x8_15 = some (r1, r2)) ∧ Aside0 (kq ≤ kj5) ∧ Drawn0 w wc)
          case first =>
            have H := HC16.out
            clear HC16
            by_cases c17 : (bt a0 a1) = 224
            · rw [if_pos c17] at H
              have c17b0 : ((bt a0 a1) == 224) = true := beq_iff_eq.mpr c17
              have c17b1 : ((bt a0 a1) != 224) = false := bne_eq_false_iff_eq.mpr c17
              clear c17
              (first | rw [c17b0] | (simp only [i64_w, i32_w]; rw [c17b0]) | skip)
              have H' := Aside0.mk H
              clear H
              go_wp2
              repeat (go_quiet (fail); try go_wp2)
              go_meet
              case rel => exact ⟨_, (160), (191), (by first | rfl | (simp; done) | (simp [*]; done)), (by first | rfl | (simp; done) | (simp [*]; done)), H', ⟨by have := HJ5.out; first | omega | exact Nat.le_refl _⟩, by repeat (first | exact Drawn0.refl _ | apply Drawn0.step)⟩
            · rw [if_neg c17] at H
              have c17b0 : ((bt a0 a1) == 224) = false := beq_eq_false_iff_ne.mpr c17
              have c17b1 : ((bt a0 a1) != 224) = true := bne_iff_ne.mpr c17
              (first | rw [c17b0] | (simp only [i64_w, i32_w]; rw [c17b0]) | skip)
              by_cases c18 : (bt a0 a1) = 237
              · rw [if_pos c18] at H
                have c18b0 : ((bt a0 a1) == 237) = true := beq_iff_eq.mpr c18
                have c18b1 : ((bt a0 a1) != 237) = false := bne_eq_false_iff_eq.mpr c18
                clear c18
                have H' := Aside0.mk H
                clear H
                go_wp2
                repeat (go_quiet (fail); try go_wp2)
                go_meet
                case rel => exact ⟨_, (128), (159), (by first | rfl | (simp; done) | (simp [*]; done)), (by first | rfl | (simp; done) | (simp [*]; done)), H', ⟨by have := HJ5.out; first | omega | exact Nat.le_refl _⟩, by repeat (first | exact Drawn0.refl _ | apply Drawn0.step)⟩
              · rw [if_neg c18] at H
                have c18b0 : ((bt a0 a1) == 237) = false := beq_eq_false_iff_ne.mpr c18
                have c18b1 : ((bt a0 a1) != 237) = true := bne_iff_ne.mpr c18
                by_cases c19 : (bt a0 a1) = 240
                · rw [if_pos c19] at H
                  have c19b0 : ((bt a0 a1) == 240) = true := beq_iff_eq.mpr c19
                  have c19b1 : ((bt a0 a1) != 240) = false := bne_eq_false_iff_eq.mpr c19
                  clear c19
                  have H' := Aside0.mk H
                  clear H
                  go_wp2
                  repeat (go_quiet (fail); try go_wp2)
                  go_meet
                  case rel => exact ⟨_, (144), (191), (by first | rfl | (simp; done) | (simp [*]; done)), (by first | rfl | (simp; done) | (simp [*]; done)), H', ⟨by have := HJ5.out; first | omega | exact Nat.le_refl _⟩, by repeat (first | exact Drawn0.refl _ | apply Drawn0.step)⟩
                · rw [if_neg c19] at H
                  have c19b0 : ((bt a0 a1) == 240) = false := beq_eq_false_iff_ne.mpr c19
                  have c19b1 : ((bt a0 a1) != 240) = true := bne_iff_ne.mpr c19
                  by_cases c20 : (bt a0 a1) = 244
                  · rw [if_pos c20] at H
                    have c20b0 : ((bt a0 a1) == 244) = true := beq_iff_eq.mpr c20
                    have c20b1 : ((bt a0 a1) != 244) = false := bne_eq_false_iff_eq.mpr c20
                    clear c20
                    have H' := Aside0.mk H
                    clear H
                    go_wp2
                    repeat (go_quiet (fail); try go_wp2)
                    go_meet
                    case rel => exact ⟨_, (128), (143), (by first | rfl | (simp; done) | (simp [*]; done)), (by first | rfl | (simp; done) | (simp [*]; done)), H', ⟨by have := HJ5.out; first | omega | exact Nat.le_refl _⟩, by repeat (first | exact Drawn0.refl _ | apply Drawn0.step)⟩
                  · rw [if_neg c20] at H
                    have c20b0 : ((bt a0 a1) == 244) = false := beq_eq_false_iff_ne.mpr c20
                    have c20b1 : ((bt a0 a1) != 244) = true := bne_iff_ne.mpr c20
                    have H' := Aside0.mk H
                    clear H
                    go_wp2
                    repeat (go_quiet (fail); try go_wp2)
                    go_meet
                    case rel => exact ⟨_, (128), (191), (by first | rfl | (simp; done) | (simp [*]; done)), (by first | rfl | (simp; done) | (simp [*]; done)), H', ⟨by have := HJ5.out; first | omega | exact Nat.le_refl _⟩, by repeat (first | exact Drawn0.refl _ | apply Drawn0.step)⟩
          case rest =>
            clear HC16
            try clear c1
            try clear p1
            try clear q1
            try clear hx1
            try clear c2
            try clear p2
            try clear c3
            try clear c3b0
            try clear c4
            try clear c4b0
            try clear c5
            try clear p5
            try clear q5
            try clear hx5
            try clear c6
            try clear p6
            try clear c7
            try clear c7b0
            try clear c8
            try clear c8b0
            try clear c9
            try clear c9b0
            try clear c11
            try clear c13
            try clear c13b0
            try clear c14
            try clear c14b0
            try clear p15
            try clear q15
            try clear hx15
            try clear c17
            try clear c17b0
            try clear c17b1
            try clear c18
            try clear c18b0
            try clear c18b1
            try clear c19
            try clear c19b0
            try clear c19b1
            try clear c20
            try clear c20b0
            try clear c20b1
            try clear p1
            try clear p15
            try clear p2
            try clear p5
            try clear p6
            try clear q1
            try clear q15
            try clear q5
            obtain ⟨kq, x7_15, x8_15, rfl, rfl, HA, HJ15, ⟨mc15, rfl⟩⟩ := hcut
            cases kq with
            | zero => exact absurd HA.out (by simp [cachepotref1_Rune.j1])
            | succ kj15 =>
              have H := HA.out
              clear HA
              simp only [cachepotref1_Rune.j1] at H
              have HC21 := Aside0.mk H
              clear H
              go_upto_region 16 with (fail)
              repeat (go_quiet (fail); go_upto_region 16 with (fail))
              go_cut [69] (fun v69 wc => ∃ (kq : Nat) (x69_20 : Bool), v69 = .bool x69_20 ∧ Aside0 (cachepotref1_Rune.j2 kq a0 a1 (bt a0 a1) x7_15 x8_15 x69_20 = some (r1, r2)) ∧ Aside0 (kq ≤ kj15) ∧ Drawn0 w wc)
              case first =>
                have H := HC21.out
                clear HC21
                by_cases c22 : (bt a0 a1) ≥ 224
                · rw [if_pos c22] at H
                  have c22b0 : decide (224 ≤ (bt a0 a1)) = true := decide_eq_true c22
                  clear c22
                  (first | rw [c22b0] | (simp only [i64_w, i32_w]; rw [c22b0]) | skip)
                  by_cases c23 : (bt a0 a1) ≤ 239
                  · rw [if_pos c23] at H
                    have c23b0 : decide ((bt a0 a1) ≤ 239) = true := decide_eq_true c23
                    clear c23
                    replace H := Option.bind_eq_some_iff.mp H
                    obtain ⟨t219, A240, H⟩ := H
                    replace H : (if t219 = true then ((cachepotref1_follows.f a0 (wrap64 (a1 + 2)) 128 191).bind fun t220 => (cachepotref1_Rune.j2 kj15 a0 a1 (bt a0 a1) x7_15 x8_15 t220)) else (cachepotref1_Rune.j2 kj15 a0 a1 (bt a0 a1) x7_15 x8_15 false)) = some (r1, r2) := H
                    have A24 := Aside0.mk A240
                    clear A240
                    by_cases c25 : t219 = true
                    · subst c25
                      have H1 : ((cachepotref1_follows.f a0 (wrap64 (a1 + 2)) 128 191).bind fun t220 => (cachepotref1_Rune.j2 kj15 a0 a1 (bt a0 a1) x7_15 x8_15 t220)) = some (r1, r2) := by rw [if_pos rfl] at H; exact H
                      clear H
                      have H := H1
                      clear H1
                      replace H := Option.bind_eq_some_iff.mp H
                      obtain ⟨t220, A260, H⟩ := H
                      replace H : (cachepotref1_Rune.j2 kj15 a0 a1 (bt a0 a1) x7_15 x8_15 t220) = some (r1, r2) := H
                      have A26 := Aside0.mk A260
                      clear A260
                      have H' := Aside0.mk H
                      clear H
                      go_wp2_with (first | (go_at_call 95; (with_reducible refine (cachepotref1_follows.calls a0 (wrap64 (a1 + 1)) x7_15 x8_15 true _ A24.out).mono ?_); rintro e w' ⟨rfl, ⟨nd, rfl⟩⟩; (try first | exact ⟨rfl, _, World.drewN_drewN _ _ _⟩ | exact ⟨rfl, _, Eq.trans (World.drewN_drewN _ _ _) (congrArg (World.drewN _) (Nat.add_assoc _ _ _))⟩)) | (go_at_call 95; (with_reducible refine (cachepotref1_follows.calls a0 (wrap64 (a1 + 2)) 128 191 t220 _ A26.out).mono ?_); rintro e w' ⟨rfl, ⟨nd, rfl⟩⟩; (try first | exact ⟨rfl, _, World.drewN_drewN _ _ _⟩ | exact ⟨rfl, _, Eq.trans (World.drewN_drewN _ _ _) (congrArg (World.drewN _) (Nat.add_assoc _ _ _))⟩)))
                      repeat (go_quiet (first | (go_at_call 95; (with_reducible refine (cachepotref1_follows.calls a0 (wrap64 (a1 + 1)) x7_15 x8_15 true _ A24.out).mono ?_); rintro e w' ⟨rfl, ⟨nd, rfl⟩⟩; (try first | exact ⟨rfl, _, World.drewN_drewN _ _ _⟩ | exact ⟨rfl, _, Eq.trans (World.drewN_drewN _ _ _) (congrArg (World.drewN _) (Nat.add_assoc _ _ _))⟩)) | (go_at_call 95; (with_reducible refine (cachepotref1_follows.calls a0 (wrap64 (a1 + 2)) 128 191 t220 _ A26.out).mono ?_); rintro e w' ⟨rfl, ⟨nd, rfl⟩⟩; (try first | exact ⟨rfl, _, World.drewN_drewN _ _ _⟩ | exact ⟨rfl, _, Eq.trans (World.drewN_drewN _ _ _) (congrArg (World.drewN _) (Nat.add_assoc _ _ _))⟩))); try go_wp2_with (first | (go_at_call 95; (with_reducible refine (cachepotref1_follows.calls a0 (wrap64 (a1 + 1)) x7_15 x8_15 true _ A24.out).mono ?_); rintro e w' ⟨rfl, ⟨nd, rfl⟩⟩; (try first | exact ⟨rfl, _, World.drewN_drewN _ _ _⟩ | exact ⟨rfl, _, Eq.trans (World.drewN_drewN _ _ _) (congrArg (World.drewN _) (Nat.add_assoc _ _ _))⟩)) | (go_at_call 95; (with_reducible refine (cachepotref1_follows.calls a0 (wrap64 (a1 + 2)) 128 191 t220 _ A26.out).mono ?_); rintro e w' ⟨rfl, ⟨nd, rfl⟩⟩; (try first | exact ⟨rfl, _, World.drewN_drewN _ _ _⟩ | exact ⟨rfl, _, Eq.trans (World.drewN_drewN _ _ _) (congrArg (World.drewN _) (Nat.add_assoc _ _ _))⟩))))
                      go_meet
                      case rel => exact ⟨_, (t220), (by first | rfl | (simp; done) | (simp [*]; done)), H', ⟨by have := HJ5.out; have := HJ15.out; first | omega | exact Nat.le_refl _⟩, by repeat (first | exact Drawn0.refl _ | apply Drawn0.step)⟩
                    · replace c25 := Bool.eq_false_iff.mpr c25
                      subst c25
                      have H1 : (cachepotref1_Rune.j2 kj15 a0 a1 (bt a0 a1) x7_15 x8_15 false) = some (r1, r2) := by rw [if_neg (show ¬ (false = true) by decide)] at H; exact H
                      clear H
                      have H := H1
                      clear H1
                      have H' := Aside0.mk H
                      clear H
                      go_wp2_with (first | (go_at_call 95; (with_reducible refine (cachepotref1_follows.calls a0 (wrap64 (a1 + 1)) x7_15 x8_15 false _ A24.out).mono ?_); rintro e w' ⟨rfl, ⟨nd, rfl⟩⟩; (try first | exact ⟨rfl, _, World.drewN_drewN _ _ _⟩ | exact ⟨rfl, _, Eq.trans (World.drewN_drewN _ _ _) (congrArg (World.drewN _) (Nat.add_assoc _ _ _))⟩)))
                      repeat (go_quiet (first | (go_at_call 95; (with_reducible refine (cachepotref1_follows.calls a0 (wrap64 (a1 + 1)) x7_15 x8_15 false _ A24.out).mono ?_); rintro e w' ⟨rfl, ⟨nd, rfl⟩⟩; (try first | exact ⟨rfl, _, World.drewN_drewN _ _ _⟩ | exact ⟨rfl, _, Eq.trans (World.drewN_drewN _ _ _) (congrArg (World.drewN _) (Nat.add_assoc _ _ _))⟩))); try go_wp2_with (first | (go_at_call 95; (with_reducible refine (cachepotref1_follows.calls a0 (wrap64 (a1 + 1)) x7_15 x8_15 false _ A24.out).mono ?_); rintro e w' ⟨rfl, ⟨nd, rfl⟩⟩; (try first | exact ⟨rfl, _, World.drewN_drewN _ _ _⟩ | exact ⟨rfl, _, Eq.trans (World.drewN_drewN _ _ _) (congrArg (World.drewN _) (Nat.add_assoc _ _ _))⟩))))
                      go_meet
                      case rel => exact ⟨_, (false), (by first | rfl | (simp; done) | (simp [*]; done)), H', ⟨by have := HJ5.out; have := HJ15.out; first | omega | exact Nat.le_refl _⟩, by repeat (first | exact Drawn0.refl _ | apply Drawn0.step)⟩
                  · rw [if_neg c23] at H
                    have c23b0 : decide ((bt a0 a1) ≤ 239) = false := decide_eq_false c23
                    clear c23
                    have H' := Aside0.mk H
                    clear H
                    go_wp2
                    repeat (go_quiet (fail); try go_wp2)
                    go_meet
                    case rel => exact ⟨_, (false), (by first | rfl | (simp; done) | (simp [*]; done)), H', ⟨by have := HJ5.out; have := HJ15.out; first | omega | exact Nat.le_refl _⟩, by repeat (first | exact Drawn0.refl _ | apply Drawn0.step)⟩
                · rw [if_neg c22] at H
                  have c22b0 : decide (224 ≤ (bt a0 a1)) = false := decide_eq_false c22
                  clear c22
                  (first | rw [c22b0] | (simp only [i64_w, i32_w]; rw [c22b0]) | skip)
                  have H' := Aside0.mk H
                  clear H
                  go_wp2
                  repeat (go_quiet (fail); try go_wp2)
                  go_meet
                  case rel => exact ⟨_, (false), (by first | rfl | (simp; done) | (simp [*]; done)), H', ⟨by have := HJ5.out; have := HJ15.out; first | omega | exact Nat.le_refl _⟩, by repeat (first | exact Drawn0.refl _ | apply Drawn0.step)⟩
              case rest =>
                clear HC21
                try clear c1
                try clear p1
                try clear q1
                try clear hx1
                try clear c2
                try clear p2
                try clear c3
                try clear c3b0
                try clear c4
                try clear c4b0
                try clear c5
                try clear p5
                try clear q5
                try clear hx5
                try clear c6
                try clear p6
                try clear c7
                try clear c7b0
                try clear c8
                try clear c8b0
                try clear c9
                try clear c9b0
                try clear c11
                try clear c13
                try clear c13b0
                try clear c14
                try clear c14b0
                try clear c15
                try clear p15
                try clear q15
                try clear hx15
                try clear c17
                try clear c17b0
                try clear c17b1
                try clear c18
                try clear c18b0
                try clear c18b1
                try clear c19
                try clear c19b0
                try clear c19b1
                try clear c20
                try clear c20b0
                try clear c20b1
                try clear c22
                try clear c22b0
                try clear c23
                try clear c23b0
                try clear c25
                try clear p1
                try clear p15
                try clear p2
                try clear p5
                try clear p6
                try clear q1
                try clear q15
                try clear q5
                obtain ⟨kq, x69_20, rfl, HA, HJ20, ⟨mc20, rfl⟩⟩ := hcut
                cases kq with
                | zero => exact absurd HA.out (by simp [cachepotref1_Rune.j2])
                | succ kj20 =>
                  have H := HA.out
                  clear HA
                  simp only [cachepotref1_Rune.j2] at H
                  by_cases c27 : x69_20 = true
                  · subst c27
                    have H1 : (if 0 ≤ (wrap64 (a1 + 1)) then (if (wrap64 (a1 + 1)) < (a0.size : Int) then (if 0 ≤ (wrap64 (a1 + 2)) then (if (wrap64 (a1 + 2)) < (a0.size : Int) then (some (wrap64 ((wrap64 ((wrap64 ((wrap64 (Go.bits .and .u8 (bt a0 a1) 15)) * 4096)) + (wrap64 ((wrap64 (Go.bits .and .u8 (bt a0 (wrap64 (a1 + 1))) 63)) * 64)))) + (wrap64 (Go.bits .and .u8 (bt a0 (wrap64 (a1 + 2))) 63))), 3)) else (none)) else (none)) else (none)) else (none)) = some (r1, r2) := by rw [if_pos rfl] at H; exact H
                    clear H
                    have H := H1
                    clear H1
                    obtain ⟨ji28, hji28⟩ : ∃ j_ : Int, (wrap64 (a1 + 1)) = j_ := ⟨_, rfl⟩
                    replace H : (if 0 ≤ (ji28) then (if (ji28) < (a0.size : Int) then (if 0 ≤ (wrap64 (a1 + 2)) then (if (wrap64 (a1 + 2)) < (a0.size : Int) then (some (wrap64 ((wrap64 ((wrap64 ((wrap64 (Go.bits .and .u8 (bt a0 a1) 15)) * 4096)) + (wrap64 ((wrap64 (Go.bits .and .u8 (bt a0 (ji28)) 63)) * 64)))) + (wrap64 (Go.bits .and .u8 (bt a0 (wrap64 (a1 + 2))) 63))), 3)) else (none)) else (none)) else (none)) else (none)) = some (r1, r2) := by first | (rw [hji28] at H; exact H) | (simp only [hji28] at H ⊢; exact H)
                    have hji28w : (IntKind.i64.wrap (a1 + 1)) = ji28 := (i64_w _).trans hji28
                    by_cases c29 : 0 ≤ (ji28)
                    · rw [if_pos c29] at H
                      have c29b0 : decide (0 ≤ (ji28)) = true := decide_eq_true c29
                      clear c29
                      by_cases c30 : (ji28) < (a0.size : Int)
                      · rw [if_pos c30] at H
                        have c30b0 : decide ((ji28) < (a0.size : Int)) = true := decide_eq_true c30
                        clear c30
                        obtain ⟨ji32, hji32⟩ : ∃ j_ : Int, (wrap64 (a1 + 2)) = j_ := ⟨_, rfl⟩
                        replace H : (if 0 ≤ (ji32) then (if (ji32) < (a0.size : Int) then (some (wrap64 ((wrap64 ((wrap64 ((wrap64 (Go.bits .and .u8 (bt a0 a1) 15)) * 4096)) + (wrap64 ((wrap64 (Go.bits .and .u8 (bt a0 (ji28)) 63)) * 64)))) + (wrap64 (Go.bits .and .u8 (bt a0 (ji32)) 63))), 3)) else (none)) else (none)) = some (r1, r2) := by first | (rw [hji32] at H; exact H) | (simp only [hji32] at H ⊢; exact H)
                        have hji32w : (IntKind.i64.wrap (a1 + 2)) = ji32 := (i64_w _).trans hji32
                        by_cases c33 : 0 ≤ (ji32)
                        · rw [if_pos c33] at H
                          have c33b0 : decide (0 ≤ (ji32)) = true := decide_eq_true c33
                          clear c33
                          by_cases c34 : (ji32) < (a0.size : Int)
                          · rw [if_pos c34] at H
                            have c34b0 : decide ((ji32) < (a0.size : Int)) = true := decide_eq_true c34
                            clear c34
                            simp only [Option.some.injEq, Prod.mk.injEq] at H
                            obtain ⟨rfl, rfl⟩ := H
                            have p31 : 0 ≤ ((ji28) : Int) := of_decide_eq_true (by first | (with_reducible assumption) | assumption)
                            have q31 : (ji28) < (a0.size : Int) := of_decide_eq_true (by first | (with_reducible assumption) | assumption)
                            have hx31 := bt_at a0 (ji28)
                            replace p31 := eq_true p31
                            replace q31 := eq_true q31
                            have p35 : 0 ≤ ((ji32) : Int) := of_decide_eq_true (by first | (with_reducible assumption) | assumption)
                            have q35 : (ji32) < (a0.size : Int) := of_decide_eq_true (by first | (with_reducible assumption) | assumption)
                            have hx35 := bt_at a0 (ji32)
                            replace p35 := eq_true p35
                            replace q35 := eq_true q35
                            go_wp2
                            repeat (go_quiet (fail); try go_wp2)
                            go_ret2
                            exact ⟨by first | rfl | (simp; done) | (simp only [← hji28, ← hji32] <;> (first | rfl | simp)) | (simp [*]; done), by repeat (first | exact Drawn0.refl _ | apply Drawn0.step)⟩
                          · rw [if_neg c34] at H
                            exact absurd H (by simp)
                        · rw [if_neg c33] at H
                          exact absurd H (by simp)
                      · rw [if_neg c30] at H
                        exact absurd H (by simp)
                    · rw [if_neg c29] at H
                      exact absurd H (by simp)
                  · replace c27 := Bool.eq_false_iff.mpr c27
                    subst c27
                    have H1 : (if (bt a0 a1) ≥ 240 then (if (bt a0 a1) ≤ 244 then ((cachepotref1_follows.f a0 (wrap64 (a1 + 1)) x7_15 x8_15).bind fun t221 => (if t221 = true then ((cachepotref1_follows.f a0 (wrap64 (a1 + 2)) 128 191).bind fun t222 => (if t222 = true then ((cachepotref1_follows.f a0 (wrap64 (a1 + 3)) 128 191).bind fun t223 => (if t223 = true then (if 0 ≤ (wrap64 (a1 + 1)) then (if (wrap64 (a1 + 1)) < (a0.size : Int) then (if 0 ≤ (wrap64 (a1 + 2)) then (if (wrap64 (a1 + 2)) < (a0.size : Int) then (if 0 ≤ (wrap64 (a1 + 3)) then (if (wrap64 (a1 + 3)) < (a0.size : Int) then (some (wrap64 ((wrap64 ((wrap64 ((wrap64 ((wrap64 (Go.bits .and .u8 (bt a0 a1) 7)) * 262144)) + (wrap64 ((wrap64 (Go.bits .and .u8 (bt a0 (wrap64 (a1 + 1))) 63)) * 4096)))) + (wrap64 ((wrap64 (Go.bits .and .u8 (bt a0 (wrap64 (a1 + 2))) 63)) * 64)))) + (wrap64 (Go.bits .and .u8 (bt a0 (wrap64 (a1 + 3))) 63))), 4)) else (none)) else (none)) else (none)) else (none)) else (none)) else (none)) else (some (65533, 1)))) else (some (65533, 1)))) else (some (65533, 1)))) else (some (65533, 1))) else (some (65533, 1))) = some (r1, r2) := by rw [if_neg (show ¬ (false = true) by decide)] at H; exact H
                    clear H
                    have H := H1
                    clear H1
                    by_cases c36 : (bt a0 a1) ≥ 240
                    · rw [if_pos c36] at H
                      have c36b0 : decide (240 ≤ (bt a0 a1)) = true := decide_eq_true c36
                      clear c36
                      by_cases c37 : (bt a0 a1) ≤ 244
                      · rw [if_pos c37] at H
                        have c37b0 : decide ((bt a0 a1) ≤ 244) = true := decide_eq_true c37
                        clear c37
                        replace H := Option.bind_eq_some_iff.mp H
                        obtain ⟨t221, A380, H⟩ := H
                        replace H : (if t221 = true then ((cachepotref1_follows.f a0 (wrap64 (a1 + 2)) 128 191).bind fun t222 => (if t222 = true then ((cachepotref1_follows.f a0 (wrap64 (a1 + 3)) 128 191).bind fun t223 => (if t223 = true then (if 0 ≤ (wrap64 (a1 + 1)) then (if (wrap64 (a1 + 1)) < (a0.size : Int) then (if 0 ≤ (wrap64 (a1 + 2)) then (if (wrap64 (a1 + 2)) < (a0.size : Int) then (if 0 ≤ (wrap64 (a1 + 3)) then (if (wrap64 (a1 + 3)) < (a0.size : Int) then (some (wrap64 ((wrap64 ((wrap64 ((wrap64 ((wrap64 (Go.bits .and .u8 (bt a0 a1) 7)) * 262144)) + (wrap64 ((wrap64 (Go.bits .and .u8 (bt a0 (wrap64 (a1 + 1))) 63)) * 4096)))) + (wrap64 ((wrap64 (Go.bits .and .u8 (bt a0 (wrap64 (a1 + 2))) 63)) * 64)))) + (wrap64 (Go.bits .and .u8 (bt a0 (wrap64 (a1 + 3))) 63))), 4)) else (none)) else (none)) else (none)) else (none)) else (none)) else (none)) else (some (65533, 1)))) else (some (65533, 1)))) else (some (65533, 1))) = some (r1, r2) := H
                        have A38 := Aside0.mk A380
                        clear A380
                        by_cases c39 : t221 = true
                        · subst c39
                          have H1 : ((cachepotref1_follows.f a0 (wrap64 (a1 + 2)) 128 191).bind fun t222 => (if t222 = true then ((cachepotref1_follows.f a0 (wrap64 (a1 + 3)) 128 191).bind fun t223 => (if t223 = true then (if 0 ≤ (wrap64 (a1 + 1)) then (if (wrap64 (a1 + 1)) < (a0.size : Int) then (if 0 ≤ (wrap64 (a1 + 2)) then (if (wrap64 (a1 + 2)) < (a0.size : Int) then (if 0 ≤ (wrap64 (a1 + 3)) then (if (wrap64 (a1 + 3)) < (a0.size : Int) then (some (wrap64 ((wrap64 ((wrap64 ((wrap64 ((wrap64 (Go.bits .and .u8 (bt a0 a1) 7)) * 262144)) + (wrap64 ((wrap64 (Go.bits .and .u8 (bt a0 (wrap64 (a1 + 1))) 63)) * 4096)))) + (wrap64 ((wrap64 (Go.bits .and .u8 (bt a0 (wrap64 (a1 + 2))) 63)) * 64)))) + (wrap64 (Go.bits .and .u8 (bt a0 (wrap64 (a1 + 3))) 63))), 4)) else (none)) else (none)) else (none)) else (none)) else (none)) else (none)) else (some (65533, 1)))) else (some (65533, 1)))) = some (r1, r2) := by rw [if_pos rfl] at H; exact H
                          clear H
                          have H := H1
                          clear H1
                          replace H := Option.bind_eq_some_iff.mp H
                          obtain ⟨t222, A400, H⟩ := H
                          replace H : (if t222 = true then ((cachepotref1_follows.f a0 (wrap64 (a1 + 3)) 128 191).bind fun t223 => (if t223 = true then (if 0 ≤ (wrap64 (a1 + 1)) then (if (wrap64 (a1 + 1)) < (a0.size : Int) then (if 0 ≤ (wrap64 (a1 + 2)) then (if (wrap64 (a1 + 2)) < (a0.size : Int) then (if 0 ≤ (wrap64 (a1 + 3)) then (if (wrap64 (a1 + 3)) < (a0.size : Int) then (some (wrap64 ((wrap64 ((wrap64 ((wrap64 ((wrap64 (Go.bits .and .u8 (bt a0 a1) 7)) * 262144)) + (wrap64 ((wrap64 (Go.bits .and .u8 (bt a0 (wrap64 (a1 + 1))) 63)) * 4096)))) + (wrap64 ((wrap64 (Go.bits .and .u8 (bt a0 (wrap64 (a1 + 2))) 63)) * 64)))) + (wrap64 (Go.bits .and .u8 (bt a0 (wrap64 (a1 + 3))) 63))), 4)) else (none)) else (none)) else (none)) else (none)) else (none)) else (none)) else (some (65533, 1)))) else (some (65533, 1))) = some (r1, r2) := H
                          have A40 := Aside0.mk A400
                          clear A400
                          by_cases c41 : t222 = true
                          · subst c41
                            have H1 : ((cachepotref1_follows.f a0 (wrap64 (a1 + 3)) 128 191).bind fun t223 => (if t223 = true then (if 0 ≤ (wrap64 (a1 + 1)) then (if (wrap64 (a1 + 1)) < (a0.size : Int) then (if 0 ≤ (wrap64 (a1 + 2)) then (if (wrap64 (a1 + 2)) < (a0.size : Int) then (if 0 ≤ (wrap64 (a1 + 3)) then (if (wrap64 (a1 + 3)) < (a0.size : Int) then (some (wrap64 ((wrap64 ((wrap64 ((wrap64 ((wrap64 (Go.bits .and .u8 (bt a0 a1) 7)) * 262144)) + (wrap64 ((wrap64 (Go.bits .and .u8 (bt a0 (wrap64 (a1 + 1))) 63)) * 4096)))) + (wrap64 ((wrap64 (Go.bits .and .u8 (bt a0 (wrap64 (a1 + 2))) 63)) * 64)))) + (wrap64 (Go.bits .and .u8 (bt a0 (wrap64 (a1 + 3))) 63))), 4)) else (none)) else (none)) else (none)) else (none)) else (none)) else (none)) else (some (65533, 1)))) = some (r1, r2) := by rw [if_pos rfl] at H; exact H
                            clear H
                            have H := H1
                            clear H1
                            replace H := Option.bind_eq_some_iff.mp H
                            obtain ⟨t223, A420, H⟩ := H
                            replace H : (if t223 = true then (if 0 ≤ (wrap64 (a1 + 1)) then (if (wrap64 (a1 + 1)) < (a0.size : Int) then (if 0 ≤ (wrap64 (a1 + 2)) then (if (wrap64 (a1 + 2)) < (a0.size : Int) then (if 0 ≤ (wrap64 (a1 + 3)) then (if (wrap64 (a1 + 3)) < (a0.size : Int) then (some (wrap64 ((wrap64 ((wrap64 ((wrap64 ((wrap64 (Go.bits .and .u8 (bt a0 a1) 7)) * 262144)) + (wrap64 ((wrap64 (Go.bits .and .u8 (bt a0 (wrap64 (a1 + 1))) 63)) * 4096)))) + (wrap64 ((wrap64 (Go.bits .and .u8 (bt a0 (wrap64 (a1 + 2))) 63)) * 64)))) + (wrap64 (Go.bits .and .u8 (bt a0 (wrap64 (a1 + 3))) 63))), 4)) else (none)) else (none)) else (none)) else (none)) else (none)) else (none)) else (some (65533, 1))) = some (r1, r2) := H
                            have A42 := Aside0.mk A420
                            clear A420
                            by_cases c43 : t223 = true
                            · subst c43
                              have H1 : (if 0 ≤ (wrap64 (a1 + 1)) then (if (wrap64 (a1 + 1)) < (a0.size : Int) then (if 0 ≤ (wrap64 (a1 + 2)) then (if (wrap64 (a1 + 2)) < (a0.size : Int) then (if 0 ≤ (wrap64 (a1 + 3)) then (if (wrap64 (a1 + 3)) < (a0.size : Int) then (some (wrap64 ((wrap64 ((wrap64 ((wrap64 ((wrap64 (Go.bits .and .u8 (bt a0 a1) 7)) * 262144)) + (wrap64 ((wrap64 (Go.bits .and .u8 (bt a0 (wrap64 (a1 + 1))) 63)) * 4096)))) + (wrap64 ((wrap64 (Go.bits .and .u8 (bt a0 (wrap64 (a1 + 2))) 63)) * 64)))) + (wrap64 (Go.bits .and .u8 (bt a0 (wrap64 (a1 + 3))) 63))), 4)) else (none)) else (none)) else (none)) else (none)) else (none)) else (none)) = some (r1, r2) := by rw [if_pos rfl] at H; exact H
                              clear H
                              have H := H1
                              clear H1
                              obtain ⟨ji44, hji44⟩ : ∃ j_ : Int, (wrap64 (a1 + 1)) = j_ := ⟨_, rfl⟩
                              replace H : (if 0 ≤ (ji44) then (if (ji44) < (a0.size : Int) then (if 0 ≤ (wrap64 (a1 + 2)) then (if (wrap64 (a1 + 2)) < (a0.size : Int) then (if 0 ≤ (wrap64 (a1 + 3)) then (if (wrap64 (a1 + 3)) < (a0.size : Int) then (some (wrap64 ((wrap64 ((wrap64 ((wrap64 ((wrap64 (Go.bits .and .u8 (bt a0 a1) 7)) * 262144)) + (wrap64 ((wrap64 (Go.bits .and .u8 (bt a0 (ji44)) 63)) * 4096)))) + (wrap64 ((wrap64 (Go.bits .and .u8 (bt a0 (wrap64 (a1 + 2))) 63)) * 64)))) + (wrap64 (Go.bits .and .u8 (bt a0 (wrap64 (a1 + 3))) 63))), 4)) else (none)) else (none)) else (none)) else (none)) else (none)) else (none)) = some (r1, r2) := by first | (rw [hji44] at H; exact H) | (simp only [hji44] at H ⊢; exact H)
                              (try rw [hji44] at A38)
                              (try rw [hji44] at A40)
                              (try rw [hji44] at A42)
                              have hji44w : (IntKind.i64.wrap (a1 + 1)) = ji44 := (i64_w _).trans hji44
                              by_cases c45 : 0 ≤ (ji44)
                              · rw [if_pos c45] at H
                                have c45b0 : decide (0 ≤ (ji44)) = true := decide_eq_true c45
                                clear c45
                                by_cases c46 : (ji44) < (a0.size : Int)
                                · rw [if_pos c46] at H
                                  have c46b0 : decide ((ji44) < (a0.size : Int)) = true := decide_eq_true c46
                                  clear c46
                                  obtain ⟨ji48, hji48⟩ : ∃ j_ : Int, (wrap64 (a1 + 2)) = j_ := ⟨_, rfl⟩
                                  replace H : (if 0 ≤ (ji48) then (if (ji48) < (a0.size : Int) then (if 0 ≤ (wrap64 (a1 + 3)) then (if (wrap64 (a1 + 3)) < (a0.size : Int) then (some (wrap64 ((wrap64 ((wrap64 ((wrap64 ((wrap64 (Go.bits .and .u8 (bt a0 a1) 7)) * 262144)) + (wrap64 ((wrap64 (Go.bits .and .u8 (bt a0 (ji44)) 63)) * 4096)))) + (wrap64 ((wrap64 (Go.bits .and .u8 (bt a0 (ji48)) 63)) * 64)))) + (wrap64 (Go.bits .and .u8 (bt a0 (wrap64 (a1 + 3))) 63))), 4)) else (none)) else (none)) else (none)) else (none)) = some (r1, r2) := by first | (rw [hji48] at H; exact H) | (simp only [hji48] at H ⊢; exact H)
                                  (try rw [hji48] at A38)
                                  (try rw [hji48] at A40)
                                  (try rw [hji48] at A42)
                                  have hji48w : (IntKind.i64.wrap (a1 + 2)) = ji48 := (i64_w _).trans hji48
                                  by_cases c49 : 0 ≤ (ji48)
                                  · rw [if_pos c49] at H
                                    have c49b0 : decide (0 ≤ (ji48)) = true := decide_eq_true c49
                                    clear c49
                                    by_cases c50 : (ji48) < (a0.size : Int)
                                    · rw [if_pos c50] at H
                                      have c50b0 : decide ((ji48) < (a0.size : Int)) = true := decide_eq_true c50
                                      clear c50
                                      obtain ⟨ji52, hji52⟩ : ∃ j_ : Int, (wrap64 (a1 + 3)) = j_ := ⟨_, rfl⟩
                                      replace H : (if 0 ≤ (ji52) then (if (ji52) < (a0.size : Int) then (some (wrap64 ((wrap64 ((wrap64 ((wrap64 ((wrap64 (Go.bits .and .u8 (bt a0 a1) 7)) * 262144)) + (wrap64 ((wrap64 (Go.bits .and .u8 (bt a0 (ji44)) 63)) * 4096)))) + (wrap64 ((wrap64 (Go.bits .and .u8 (bt a0 (ji48)) 63)) * 64)))) + (wrap64 (Go.bits .and .u8 (bt a0 (ji52)) 63))), 4)) else (none)) else (none)) = some (r1, r2) := by first | (rw [hji52] at H; exact H) | (simp only [hji52] at H ⊢; exact H)
                                      (try rw [hji52] at A38)
                                      (try rw [hji52] at A40)
                                      (try rw [hji52] at A42)
                                      have hji52w : (IntKind.i64.wrap (a1 + 3)) = ji52 := (i64_w _).trans hji52
                                      by_cases c53 : 0 ≤ (ji52)
                                      · rw [if_pos c53] at H
                                        have c53b0 : decide (0 ≤ (ji52)) = true := decide_eq_true c53
                                        clear c53
                                        by_cases c54 : (ji52) < (a0.size : Int)
                                        · rw [if_pos c54] at H
                                          have c54b0 : decide ((ji52) < (a0.size : Int)) = true := decide_eq_true c54
                                          clear c54
                                          simp only [Option.some.injEq, Prod.mk.injEq] at H
                                          obtain ⟨rfl, rfl⟩ := H
                                          go_wp2_with (first | (go_at_call 95; (with_reducible refine (cachepotref1_follows.calls a0 ji44 x7_15 x8_15 true _ A38.out).mono ?_); rintro e w' ⟨rfl, ⟨nd, rfl⟩⟩; (try first | exact ⟨rfl, _, World.drewN_drewN _ _ _⟩ | exact ⟨rfl, _, Eq.trans (World.drewN_drewN _ _ _) (congrArg (World.drewN _) (Nat.add_assoc _ _ _))⟩)) | (go_at_call 95; (with_reducible refine (cachepotref1_follows.calls a0 ji48 128 191 true _ A40.out).mono ?_); rintro e w' ⟨rfl, ⟨nd, rfl⟩⟩; (try first | exact ⟨rfl, _, World.drewN_drewN _ _ _⟩ | exact ⟨rfl, _, Eq.trans (World.drewN_drewN _ _ _) (congrArg (World.drewN _) (Nat.add_assoc _ _ _))⟩)) | (go_at_call 95; (with_reducible refine (cachepotref1_follows.calls a0 ji52 128 191 true _ A42.out).mono ?_); rintro e w' ⟨rfl, ⟨nd, rfl⟩⟩; (try first | exact ⟨rfl, _, World.drewN_drewN _ _ _⟩ | exact ⟨rfl, _, Eq.trans (World.drewN_drewN _ _ _) (congrArg (World.drewN _) (Nat.add_assoc _ _ _))⟩); have p47 : 0 ≤ ((ji44) : Int) := of_decide_eq_true (by first | (with_reducible assumption) | assumption); have q47 : (ji44) < (a0.size : Int) := of_decide_eq_true (by first | (with_reducible assumption) | assumption); have hx47 := bt_at a0 (ji44); replace p47 := eq_true p47; replace q47 := eq_true q47; have p51 : 0 ≤ ((ji48) : Int) := of_decide_eq_true (by first | (with_reducible assumption) | assumption); have q51 : (ji48) < (a0.size : Int) := of_decide_eq_true (by first | (with_reducible assumption) | assumption); have hx51 := bt_at a0 (ji48); replace p51 := eq_true p51; replace q51 := eq_true q51; have p55 : 0 ≤ ((ji52) : Int) := of_decide_eq_true (by first | (with_reducible assumption) | assumption); have q55 : (ji52) < (a0.size : Int) := of_decide_eq_true (by first | (with_reducible assumption) | assumption); have hx55 := bt_at a0 (ji52); replace p55 := eq_true p55; replace q55 := eq_true q55))
                                          repeat (go_quiet (first | (go_at_call 95; (with_reducible refine (cachepotref1_follows.calls a0 ji44 x7_15 x8_15 true _ A38.out).mono ?_); rintro e w' ⟨rfl, ⟨nd, rfl⟩⟩; (try first | exact ⟨rfl, _, World.drewN_drewN _ _ _⟩ | exact ⟨rfl, _, Eq.trans (World.drewN_drewN _ _ _) (congrArg (World.drewN _) (Nat.add_assoc _ _ _))⟩)) | (go_at_call 95; (with_reducible refine (cachepotref1_follows.calls a0 ji48 128 191 true _ A40.out).mono ?_); rintro e w' ⟨rfl, ⟨nd, rfl⟩⟩; (try first | exact ⟨rfl, _, World.drewN_drewN _ _ _⟩ | exact ⟨rfl, _, Eq.trans (World.drewN_drewN _ _ _) (congrArg (World.drewN _) (Nat.add_assoc _ _ _))⟩)) | (go_at_call 95; (with_reducible refine (cachepotref1_follows.calls a0 ji52 128 191 true _ A42.out).mono ?_); rintro e w' ⟨rfl, ⟨nd, rfl⟩⟩; (try first | exact ⟨rfl, _, World.drewN_drewN _ _ _⟩ | exact ⟨rfl, _, Eq.trans (World.drewN_drewN _ _ _) (congrArg (World.drewN _) (Nat.add_assoc _ _ _))⟩); have p47 : 0 ≤ ((ji44) : Int) := of_decide_eq_true (by first | (with_reducible assumption) | assumption); have q47 : (ji44) < (a0.size : Int) := of_decide_eq_true (by first | (with_reducible assumption) | assumption); have hx47 := bt_at a0 (ji44); replace p47 := eq_true p47; replace q47 := eq_true q47; have p51 : 0 ≤ ((ji48) : Int) := of_decide_eq_true (by first | (with_reducible assumption) | assumption); have q51 : (ji48) < (a0.size : Int) := of_decide_eq_true (by first | (with_reducible assumption) | assumption); have hx51 := bt_at a0 (ji48); replace p51 := eq_true p51; replace q51 := eq_true q51; have p55 : 0 ≤ ((ji52) : Int) := of_decide_eq_true (by first | (with_reducible assumption) | assumption); have q55 : (ji52) < (a0.size : Int) := of_decide_eq_true (by first | (with_reducible assumption) | assumption); have hx55 := bt_at a0 (ji52); replace p55 := eq_true p55; replace q55 := eq_true q55)); try go_wp2_with (first | (go_at_call 95; (with_reducible refine (cachepotref1_follows.calls a0 ji44 x7_15 x8_15 true _ A38.out).mono ?_); rintro e w' ⟨rfl, ⟨nd, rfl⟩⟩; (try first | exact ⟨rfl, _, World.drewN_drewN _ _ _⟩ | exact ⟨rfl, _, Eq.trans (World.drewN_drewN _ _ _) (congrArg (World.drewN _) (Nat.add_assoc _ _ _))⟩)) | (go_at_call 95; (with_reducible refine (cachepotref1_follows.calls a0 ji48 128 191 true _ A40.out).mono ?_); rintro e w' ⟨rfl, ⟨nd, rfl⟩⟩; (try first | exact ⟨rfl, _, World.drewN_drewN _ _ _⟩ | exact ⟨rfl, _, Eq.trans (World.drewN_drewN _ _ _) (congrArg (World.drewN _) (Nat.add_assoc _ _ _))⟩)) | (go_at_call 95; (with_reducible refine (cachepotref1_follows.calls a0 ji52 128 191 true _ A42.out).mono ?_); rintro e w' ⟨rfl, ⟨nd, rfl⟩⟩; (try first | exact ⟨rfl, _, World.drewN_drewN _ _ _⟩ | exact ⟨rfl, _, Eq.trans (World.drewN_drewN _ _ _) (congrArg (World.drewN _) (Nat.add_assoc _ _ _))⟩); have p47 : 0 ≤ ((ji44) : Int) := of_decide_eq_true (by first | (with_reducible assumption) | assumption); have q47 : (ji44) < (a0.size : Int) := of_decide_eq_true (by first | (with_reducible assumption) | assumption); have hx47 := bt_at a0 (ji44); replace p47 := eq_true p47; replace q47 := eq_true q47; have p51 : 0 ≤ ((ji48) : Int) := of_decide_eq_true (by first | (with_reducible assumption) | assumption); have q51 : (ji48) < (a0.size : Int) := of_decide_eq_true (by first | (with_reducible assumption) | assumption); have hx51 := bt_at a0 (ji48); replace p51 := eq_true p51; replace q51 := eq_true q51; have p55 : 0 ≤ ((ji52) : Int) := of_decide_eq_true (by first | (with_reducible assumption) | assumption); have q55 : (ji52) < (a0.size : Int) := of_decide_eq_true (by first | (with_reducible assumption) | assumption); have hx55 := bt_at a0 (ji52); replace p55 := eq_true p55; replace q55 := eq_true q55)))
                                          go_ret2
                                          exact ⟨by first | rfl | (simp; done) | (simp only [← hji44, ← hji48, ← hji52] <;> (first | rfl | simp)) | (simp [*]; done), by repeat (first | exact Drawn0.refl _ | apply Drawn0.step)⟩
                                        · rw [if_neg c54] at H
                                          exact absurd H (by simp)
                                      · rw [if_neg c53] at H
                                        exact absurd H (by simp)
                                    · rw [if_neg c50] at H
                                      exact absurd H (by simp)
                                  · rw [if_neg c49] at H
                                    exact absurd H (by simp)
                                · rw [if_neg c46] at H
                                  exact absurd H (by simp)
                              · rw [if_neg c45] at H
                                exact absurd H (by simp)
                            · replace c43 := Bool.eq_false_iff.mpr c43
                              subst c43
                              have H1 : (some (65533, 1)) = some (r1, r2) := by rw [if_neg (show ¬ (false = true) by decide)] at H; exact H
                              clear H
                              have H := H1
                              clear H1
                              simp only [Option.some.injEq, Prod.mk.injEq] at H
                              obtain ⟨rfl, rfl⟩ := H
                              go_wp2_with (first | (go_at_call 95; (with_reducible refine (cachepotref1_follows.calls a0 (wrap64 (a1 + 1)) x7_15 x8_15 true _ A38.out).mono ?_); rintro e w' ⟨rfl, ⟨nd, rfl⟩⟩; (try first | exact ⟨rfl, _, World.drewN_drewN _ _ _⟩ | exact ⟨rfl, _, Eq.trans (World.drewN_drewN _ _ _) (congrArg (World.drewN _) (Nat.add_assoc _ _ _))⟩)) | (go_at_call 95; (with_reducible refine (cachepotref1_follows.calls a0 (wrap64 (a1 + 2)) 128 191 true _ A40.out).mono ?_); rintro e w' ⟨rfl, ⟨nd, rfl⟩⟩; (try first | exact ⟨rfl, _, World.drewN_drewN _ _ _⟩ | exact ⟨rfl, _, Eq.trans (World.drewN_drewN _ _ _) (congrArg (World.drewN _) (Nat.add_assoc _ _ _))⟩)) | (go_at_call 95; (with_reducible refine (cachepotref1_follows.calls a0 (wrap64 (a1 + 3)) 128 191 false _ A42.out).mono ?_); rintro e w' ⟨rfl, ⟨nd, rfl⟩⟩; (try first | exact ⟨rfl, _, World.drewN_drewN _ _ _⟩ | exact ⟨rfl, _, Eq.trans (World.drewN_drewN _ _ _) (congrArg (World.drewN _) (Nat.add_assoc _ _ _))⟩)))
                              repeat (go_quiet (first | (go_at_call 95; (with_reducible refine (cachepotref1_follows.calls a0 (wrap64 (a1 + 1)) x7_15 x8_15 true _ A38.out).mono ?_); rintro e w' ⟨rfl, ⟨nd, rfl⟩⟩; (try first | exact ⟨rfl, _, World.drewN_drewN _ _ _⟩ | exact ⟨rfl, _, Eq.trans (World.drewN_drewN _ _ _) (congrArg (World.drewN _) (Nat.add_assoc _ _ _))⟩)) | (go_at_call 95; (with_reducible refine (cachepotref1_follows.calls a0 (wrap64 (a1 + 2)) 128 191 true _ A40.out).mono ?_); rintro e w' ⟨rfl, ⟨nd, rfl⟩⟩; (try first | exact ⟨rfl, _, World.drewN_drewN _ _ _⟩ | exact ⟨rfl, _, Eq.trans (World.drewN_drewN _ _ _) (congrArg (World.drewN _) (Nat.add_assoc _ _ _))⟩)) | (go_at_call 95; (with_reducible refine (cachepotref1_follows.calls a0 (wrap64 (a1 + 3)) 128 191 false _ A42.out).mono ?_); rintro e w' ⟨rfl, ⟨nd, rfl⟩⟩; (try first | exact ⟨rfl, _, World.drewN_drewN _ _ _⟩ | exact ⟨rfl, _, Eq.trans (World.drewN_drewN _ _ _) (congrArg (World.drewN _) (Nat.add_assoc _ _ _))⟩))); try go_wp2_with (first | (go_at_call 95; (with_reducible refine (cachepotref1_follows.calls a0 (wrap64 (a1 + 1)) x7_15 x8_15 true _ A38.out).mono ?_); rintro e w' ⟨rfl, ⟨nd, rfl⟩⟩; (try first | exact ⟨rfl, _, World.drewN_drewN _ _ _⟩ | exact ⟨rfl, _, Eq.trans (World.drewN_drewN _ _ _) (congrArg (World.drewN _) (Nat.add_assoc _ _ _))⟩)) | (go_at_call 95; (with_reducible refine (cachepotref1_follows.calls a0 (wrap64 (a1 + 2)) 128 191 true _ A40.out).mono ?_); rintro e w' ⟨rfl, ⟨nd, rfl⟩⟩; (try first | exact ⟨rfl, _, World.drewN_drewN _ _ _⟩ | exact ⟨rfl, _, Eq.trans (World.drewN_drewN _ _ _) (congrArg (World.drewN _) (Nat.add_assoc _ _ _))⟩)) | (go_at_call 95; (with_reducible refine (cachepotref1_follows.calls a0 (wrap64 (a1 + 3)) 128 191 false _ A42.out).mono ?_); rintro e w' ⟨rfl, ⟨nd, rfl⟩⟩; (try first | exact ⟨rfl, _, World.drewN_drewN _ _ _⟩ | exact ⟨rfl, _, Eq.trans (World.drewN_drewN _ _ _) (congrArg (World.drewN _) (Nat.add_assoc _ _ _))⟩))))
                              go_ret2
                              exact ⟨by first | rfl | (simp; done) | (simp [*]; done), by repeat (first | exact Drawn0.refl _ | apply Drawn0.step)⟩
                          · replace c41 := Bool.eq_false_iff.mpr c41
                            subst c41
                            have H1 : (some (65533, 1)) = some (r1, r2) := by rw [if_neg (show ¬ (false = true) by decide)] at H; exact H
                            clear H
                            have H := H1
                            clear H1
                            simp only [Option.some.injEq, Prod.mk.injEq] at H
                            obtain ⟨rfl, rfl⟩ := H
                            go_wp2_with (first | (go_at_call 95; (with_reducible refine (cachepotref1_follows.calls a0 (wrap64 (a1 + 1)) x7_15 x8_15 true _ A38.out).mono ?_); rintro e w' ⟨rfl, ⟨nd, rfl⟩⟩; (try first | exact ⟨rfl, _, World.drewN_drewN _ _ _⟩ | exact ⟨rfl, _, Eq.trans (World.drewN_drewN _ _ _) (congrArg (World.drewN _) (Nat.add_assoc _ _ _))⟩)) | (go_at_call 95; (with_reducible refine (cachepotref1_follows.calls a0 (wrap64 (a1 + 2)) 128 191 false _ A40.out).mono ?_); rintro e w' ⟨rfl, ⟨nd, rfl⟩⟩; (try first | exact ⟨rfl, _, World.drewN_drewN _ _ _⟩ | exact ⟨rfl, _, Eq.trans (World.drewN_drewN _ _ _) (congrArg (World.drewN _) (Nat.add_assoc _ _ _))⟩)))
                            repeat (go_quiet (first | (go_at_call 95; (with_reducible refine (cachepotref1_follows.calls a0 (wrap64 (a1 + 1)) x7_15 x8_15 true _ A38.out).mono ?_); rintro e w' ⟨rfl, ⟨nd, rfl⟩⟩; (try first | exact ⟨rfl, _, World.drewN_drewN _ _ _⟩ | exact ⟨rfl, _, Eq.trans (World.drewN_drewN _ _ _) (congrArg (World.drewN _) (Nat.add_assoc _ _ _))⟩)) | (go_at_call 95; (with_reducible refine (cachepotref1_follows.calls a0 (wrap64 (a1 + 2)) 128 191 false _ A40.out).mono ?_); rintro e w' ⟨rfl, ⟨nd, rfl⟩⟩; (try first | exact ⟨rfl, _, World.drewN_drewN _ _ _⟩ | exact ⟨rfl, _, Eq.trans (World.drewN_drewN _ _ _) (congrArg (World.drewN _) (Nat.add_assoc _ _ _))⟩))); try go_wp2_with (first | (go_at_call 95; (with_reducible refine (cachepotref1_follows.calls a0 (wrap64 (a1 + 1)) x7_15 x8_15 true _ A38.out).mono ?_); rintro e w' ⟨rfl, ⟨nd, rfl⟩⟩; (try first | exact ⟨rfl, _, World.drewN_drewN _ _ _⟩ | exact ⟨rfl, _, Eq.trans (World.drewN_drewN _ _ _) (congrArg (World.drewN _) (Nat.add_assoc _ _ _))⟩)) | (go_at_call 95; (with_reducible refine (cachepotref1_follows.calls a0 (wrap64 (a1 + 2)) 128 191 false _ A40.out).mono ?_); rintro e w' ⟨rfl, ⟨nd, rfl⟩⟩; (try first | exact ⟨rfl, _, World.drewN_drewN _ _ _⟩ | exact ⟨rfl, _, Eq.trans (World.drewN_drewN _ _ _) (congrArg (World.drewN _) (Nat.add_assoc _ _ _))⟩))))
                            go_ret2
                            exact ⟨by first | rfl | (simp; done) | (simp [*]; done), by repeat (first | exact Drawn0.refl _ | apply Drawn0.step)⟩
                        · replace c39 := Bool.eq_false_iff.mpr c39
                          subst c39
                          have H1 : (some (65533, 1)) = some (r1, r2) := by rw [if_neg (show ¬ (false = true) by decide)] at H; exact H
                          clear H
                          have H := H1
                          clear H1
                          simp only [Option.some.injEq, Prod.mk.injEq] at H
                          obtain ⟨rfl, rfl⟩ := H
                          go_wp2_with (first | (go_at_call 95; (with_reducible refine (cachepotref1_follows.calls a0 (wrap64 (a1 + 1)) x7_15 x8_15 false _ A38.out).mono ?_); rintro e w' ⟨rfl, ⟨nd, rfl⟩⟩; (try first | exact ⟨rfl, _, World.drewN_drewN _ _ _⟩ | exact ⟨rfl, _, Eq.trans (World.drewN_drewN _ _ _) (congrArg (World.drewN _) (Nat.add_assoc _ _ _))⟩)))
                          repeat (go_quiet (first | (go_at_call 95; (with_reducible refine (cachepotref1_follows.calls a0 (wrap64 (a1 + 1)) x7_15 x8_15 false _ A38.out).mono ?_); rintro e w' ⟨rfl, ⟨nd, rfl⟩⟩; (try first | exact ⟨rfl, _, World.drewN_drewN _ _ _⟩ | exact ⟨rfl, _, Eq.trans (World.drewN_drewN _ _ _) (congrArg (World.drewN _) (Nat.add_assoc _ _ _))⟩))); try go_wp2_with (first | (go_at_call 95; (with_reducible refine (cachepotref1_follows.calls a0 (wrap64 (a1 + 1)) x7_15 x8_15 false _ A38.out).mono ?_); rintro e w' ⟨rfl, ⟨nd, rfl⟩⟩; (try first | exact ⟨rfl, _, World.drewN_drewN _ _ _⟩ | exact ⟨rfl, _, Eq.trans (World.drewN_drewN _ _ _) (congrArg (World.drewN _) (Nat.add_assoc _ _ _))⟩))))
                          go_ret2
                          exact ⟨by first | rfl | (simp; done) | (simp [*]; done), by repeat (first | exact Drawn0.refl _ | apply Drawn0.step)⟩
                      · rw [if_neg c37] at H
                        have c37b0 : decide ((bt a0 a1) ≤ 244) = false := decide_eq_false c37
                        clear c37
                        simp only [Option.some.injEq, Prod.mk.injEq] at H
                        obtain ⟨rfl, rfl⟩ := H
                        go_wp2
                        repeat (go_quiet (fail); try go_wp2)
                        go_ret2
                        exact ⟨by first | rfl | (simp; done) | (simp [*]; done), by repeat (first | exact Drawn0.refl _ | apply Drawn0.step)⟩
                    · rw [if_neg c36] at H
                      have c36b0 : decide (240 ≤ (bt a0 a1)) = false := decide_eq_false c36
                      clear c36
                      simp only [Option.some.injEq, Prod.mk.injEq] at H
                      obtain ⟨rfl, rfl⟩ := H
                      go_wp2
                      repeat (go_quiet (fail); try go_wp2)
                      go_ret2
                      exact ⟨by first | rfl | (simp; done) | (simp [*]; done), by repeat (first | exact Drawn0.refl _ | apply Drawn0.step)⟩
    · rw [if_neg c4] at H
      exact absurd H (by simp)
  · rw [if_neg c3] at H
    exact absurd H (by simp)
def cachepotref1_Runes.l0 : Nat → ByteArray → List Int → List Int → Int → Option (List Int × List Int)
  | 0, _, _, _, _ => none
  | k + 1, x0, x4, x5, x6 => if x6 < (x0.size : Int) then ((cachepotref1_Rune.f k x0 x6).bind fun bt224 => (if x4.length < 17592186044416 then (if x5.length < 17592186044416 then (cachepotref1_Runes.l0 k x0 (x4 ++ [bt224.1]) (x5 ++ [bt224.2]) (wrap64 (x6 + bt224.2))) else (none)) else (none))) else (some (x4, x5))
def cachepotref1_Runes.f (k : Nat) (a0 : ByteArray) : Option (List Int × List Int) := cachepotref1_Runes.l0 k a0 ([] : List Int) ([] : List Int) 0
set_option maxHeartbeats 8000000 in
set_option maxRecDepth 100000 in
theorem cachepotref1_Runes.calls (k : Nat) (a0 : ByteArray) (r1 : List Int) (r2 : List Int) (w : World) (h : cachepotref1_Runes.f k a0 = some (r1, r2)) :
    Calls Tryd.prog 131 #[.string a0] w fun e w' => ∃ v0_ v1_ : Value, e = .returned (.tuple #[v0_, v1_]) ∧ Kd.R (Kd.int .i64) 3 w' w.heap.size (fun k_ => some k_ ≠ (v1_ : Value).ownBlock) v0_ r1 ∧ Kd.R (Kd.int .i64) 3 w' w.heap.size (fun k_ => some k_ ≠ (v0_ : Value).ownBlock) v1_ r2 ∧ Below w.heap.size w w' := by
  have HB := Aside0.mk (Below.refl w.heap.size w)
  have H : (cachepotref1_Runes.l0 k a0 ([] : List Int) ([] : List Int) 0) = some (r1, r2) := h
  clear h
  have H' := Aside0.mk H
  clear H
  go_enter Tryd.func131, Tryd.ntmps131
  go_wp2
  go_loopg [4, 5, 6] k (fun kq v4 v5 v6 w' => ∃ (x4_1 : List Int) (x5_1 : List Int) (x6_1 : Int), v6 = .int .i64 x6_1 ∧ Aside0 (cachepotref1_Runes.l0 kq a0 x4_1 x5_1 x6_1 = some (r1, r2)) ∧ Aside0 (kq ≤ k) ∧ Aside0 (Kd.R (Kd.int .i64) 3 w' w.heap.size (fun k_ => some k_ ≠ (v5 : Value).ownBlock) v4 x4_1) ∧ Aside0 (Kd.R (Kd.int .i64) 3 w' w.heap.size (fun k_ => some k_ ≠ (v4 : Value).ownBlock) v5 x5_1) ∧ Aside0 (Below w.heap.size w w'))
  case atStart => exact ⟨(([] : List Int)), (([] : List Int)), (0), (by first | rfl | (simp; done) | (simp [*]; done)), H', ⟨Nat.le_refl _⟩, ⟨by first | exact Kd.R_nil _ _ _ _ _ | exact Kd.N_nil _ _ _ _ _ | exact Kd.V_nil _ _ _ _ _ | exact Kd.Q_nil _ _ _ _ _ | exact Kd.S_nil _ _ _ _ _⟩, ⟨by first | exact Kd.R_nil _ _ _ _ _ | exact Kd.N_nil _ _ _ _ _ | exact Kd.V_nil _ _ _ _ _ | exact Kd.Q_nil _ _ _ _ _ | exact Kd.S_nil _ _ _ _ _⟩, ⟨by repeat (first | (with_reducible first | exact HB.out | apply below_alloc | apply pw_below_drewN | apply below_drew1) | exact HB.out)⟩⟩
  case round =>
    clear H'
    try clear c1
    obtain ⟨x4_1, x5_1, x6_1, rfl, HA, HK1, HO_4, HO_5, HB⟩ := hrel
    cases gk with
    | zero => exact absurd HA.out (by simp [cachepotref1_Runes.l0])
    | succ k1 =>
      have H := HA.out
      clear HA
      simp only [cachepotref1_Runes.l0] at H
      by_cases c2 : x6_1 < (a0.size : Int)
      · rw [if_pos c2] at H
        have c2b0 : decide (x6_1 < (a0.size : Int)) = true := decide_eq_true c2
        clear c2
        replace H := Option.bind_eq_some_iff.mp H
        obtain ⟨⟨t224, t225⟩, A30, H⟩ := H
        replace H : (if x4_1.length < 17592186044416 then (if x5_1.length < 17592186044416 then (cachepotref1_Runes.l0 k1 a0 (x4_1 ++ [t224]) (x5_1 ++ [t225]) (wrap64 (x6_1 + t225))) else (none)) else (none)) = some (r1, r2) := H
        have A3 := Aside0.mk A30
        clear A30
        by_cases c4 : x4_1.length < 17592186044416
        · rw [if_pos c4] at H
          have LMc4 := Aside0.mk c4
          clear c4
          obtain ⟨y226, hy226⟩ : ∃ y_ : List Int, y_ = (x4_1 ++ [t224]) := ⟨_, rfl⟩
          replace H : (if x5_1.length < 17592186044416 then (cachepotref1_Runes.l0 k1 a0 y226 (x5_1 ++ [t225]) (wrap64 (x6_1 + t225))) else (none)) = some (r1, r2) := by first | (rw [hy226]; with_reducible exact H) | (have H2_ := (Option.bind_some _ _).symm.trans H; rw [hy226]; with_reducible exact H2_) | (have H2_ := (Option.bind_some _ _).symm.trans H; with_reducible exact H2_) | with_reducible exact H | (rw [hy226]; exact H) | exact H
          have Ny226 := Aside0.mk hy226
          clear hy226
          by_cases c5 : x5_1.length < 17592186044416
          · rw [if_pos c5] at H
            have LMc5 := Aside0.mk c5
            clear c5
            obtain ⟨y229, hy229⟩ : ∃ y_ : List Int, y_ = (x5_1 ++ [t225]) := ⟨_, rfl⟩
            replace H : (cachepotref1_Runes.l0 k1 a0 y226 y229 (wrap64 (x6_1 + t225))) = some (r1, r2) := by first | (rw [hy229]; with_reducible exact H) | (have H2_ := (Option.bind_some _ _).symm.trans H; rw [hy229]; with_reducible exact H2_) | (have H2_ := (Option.bind_some _ _).symm.trans H; with_reducible exact H2_) | with_reducible exact H | (rw [hy229]; exact H) | exact H
            have Ny229 := Aside0.mk hy229
            clear hy229
            have H' := Aside0.mk H
            clear H
            go_wp2_with (first | ((with_reducible refine gate_callee (f := 60) rfl ?_); refine goesL_ (some 16) rfl rfl Tryd.func60 (by kernel_rfl) rfl #[.string a0, .int .i64 x6_1] rfl (by (try simp only [List.map_toArray, List.map_cons, List.map_nil]); first | done | rfl | (simp only [List.length_drop, List.length_take]; rfl)) ?_; (with_reducible refine (cachepotref1_Rune.calls k1 a0 x6_1 t224 t225 _ A3.out).mono ?_); rintro e w' ⟨rfl, ⟨nd, rfl⟩⟩; refine ⟨_, rfl, ?_⟩) | ((with_reducible refine gate_builtin (b := .append) (xs := #[.tmp 19, .tmp 21]) rfl ?_); at_builtin; refine Kd.R_append (Kd.int .i64) (w0 := w) w.heap.size rfl (.tmp 19) (.tmp 21) 56 3 (.int .i64 0) 8 rfl Tryd.underlying56 info3 rfl (by decide) (by omega) u4 x4_1 t224 [.int .i64 t224] (fun k_ => some k_ ≠ (u5 : Value).ownBlock) (fun _ => False) rfl rfl ?aP (fun _ hk => hk.elim) ?aF ?aO ?aB ?aS ?aL ?_; (case aP => exact rfl); (case aB => exact (by repeat (first | (with_reducible first | exact HB.out | apply below_alloc | apply pw_below_drewN | apply below_drew1) | exact HB.out))); (case aF => exact (fun k_ hk => Kd.fresh' (Kd.R_lt (by (with_reducible repeat (first | apply Kd.R_alloc | apply Kd.R_drewN | apply Kd.R_drew)); exact HO_5.out)) k_ hk)); (case aO => exact (by (with_reducible repeat (first | apply Kd.R_alloc | apply Kd.R_drewN | apply Kd.R_drew)); exact HO_4.out)); (case aS => exact (below_size (by repeat (first | (with_reducible first | exact HB.out | apply below_alloc | apply pw_below_drewN | apply below_drew1) | exact HB.out)))); (case aL => have := LMc4.out; omega); intro v227 w6 ho hb hg hat; rw [← Ny226.out] at ho; have n0_ := Aside0.mk (Kd.R_after (ok := (fun _ => True)) (by (with_reducible repeat (first | apply Kd.R_alloc | apply Kd.R_drewN | apply Kd.R_drew)); exact Kd.R_mono HO_5.out (fun _ hk => ⟨trivial, hk⟩)) hg hat); have n1_ := Aside0.mk (hb); have n2_ := Aside0.mk (ho); clear HO_5; clear HB; clear HO_4; have HO_5 := n0_; have HB := n1_; have HO228 := n2_; clear n0_ n1_ n2_; clear ho hb hg hat) | ((with_reducible refine gate_builtin (b := .append) (xs := #[.tmp 23, .tmp 25]) rfl ?_); at_builtin; refine Kd.R_append (Kd.int .i64) (w0 := w) w.heap.size rfl (.tmp 23) (.tmp 25) 56 3 (.int .i64 0) 8 rfl Tryd.underlying56 info3 rfl (by decide) (by omega) u5 x5_1 t225 [.int .i64 t225] (fun k_ => some k_ ≠ (v227 : Value).ownBlock) (fun _ => False) rfl rfl ?aP (fun _ hk => hk.elim) ?aF ?aO ?aB ?aS ?aL ?_; (case aP => exact rfl); (case aB => exact (by repeat (first | (with_reducible first | exact HB.out | apply below_alloc | apply pw_below_drewN | apply below_drew1) | exact HB.out))); (case aF => exact (fun k_ hk => Kd.fresh' (Kd.R_lt (by (with_reducible repeat (first | apply Kd.R_alloc | apply Kd.R_drewN | apply Kd.R_drew)); exact HO228.out)) k_ hk)); (case aO => exact (by (with_reducible repeat (first | apply Kd.R_alloc | apply Kd.R_drewN | apply Kd.R_drew)); exact Kd.R_mono HO_5.out (fun _ hk => hk.2))); (case aS => exact (below_size (by repeat (first | (with_reducible first | exact HB.out | apply below_alloc | apply pw_below_drewN | apply below_drew1) | exact HB.out)))); (case aL => have := LMc5.out; omega); intro v230 w7 ho hb hg hat; rw [← Ny229.out] at ho; have n0_ := Aside0.mk (Kd.R_after (ok := (fun _ => True)) (by (with_reducible repeat (first | apply Kd.R_alloc | apply Kd.R_drewN | apply Kd.R_drew)); exact Kd.R_mono HO228.out (fun _ hk => ⟨trivial, hk⟩)) hg hat); have n1_ := Aside0.mk (hb); have n2_ := Aside0.mk (ho); clear HO228; clear HB; clear HO_5; have HO228 := n0_; have HB := n1_; have HO231 := n2_; clear n0_ n1_ n2_; clear ho hb hg hat))
            go_roundg k1
            case measure => have := HK1.out; omega
            case rel => exact ⟨(y226), (y229), (wrap64 (x6_1 + t225)), (by first | rfl | (simp; done) | (simp [*]; done)), H', ⟨by have := HK1.out; omega⟩, ⟨by (with_reducible repeat (first | apply Kd.R_alloc | apply Kd.R_drewN | apply Kd.R_drew)); exact Kd.R_mono HO228.out (fun _ hk => hk.2)⟩, ⟨by (with_reducible repeat (first | apply Kd.R_alloc | apply Kd.R_drewN | apply Kd.R_drew)); exact HO231.out⟩, ⟨by repeat (first | (with_reducible first | exact HB.out | apply below_alloc | apply pw_below_drewN | apply below_drew1) | exact HB.out)⟩⟩
          · rw [if_neg c5] at H
            exact absurd H (by simp)
        · rw [if_neg c4] at H
          exact absurd H (by simp)
      · rw [if_neg c2] at H
        have c2b0 : decide (x6_1 < (a0.size : Int)) = false := decide_eq_false c2
        clear c2
        simp only [Option.some.injEq, Prod.mk.injEq] at H
        obtain ⟨rfl, rfl⟩ := H
        go_wp2
        go_ret2
        exact ⟨_, _, by first | rfl | (simp [errW_none, errW_some] <;> rfl) | (simp [*, errW_none, errW_some] <;> rfl), by (with_reducible repeat (first | apply Kd.R_alloc | apply Kd.R_drewN | apply Kd.R_drew)); exact HO_4.out, by (with_reducible repeat (first | apply Kd.R_alloc | apply Kd.R_drewN | apply Kd.R_drew)); exact HO_5.out, by repeat (first | (with_reducible first | exact HB.out | apply below_alloc | apply pw_below_drewN | apply below_drew1) | exact HB.out)⟩
end Go.Proofs.YtfaelejeihmgcaaDoor.Lgx
end

section
namespace Go.Proofs.YtfaelejeihmgcaaDoor.Lgx
open Go.RowKit Go.Proofs.YtfaelejeihmgcaaDoorW.PrintWords Go.Proofs.YtfaelejeihmgcaaDoorW.PrintLast Go.Proofs.YtfaelejeihmgcaaDoorW.PrintMore
attribute [local go_sem] max2_int min2_int max_two min_two max_three min_three max_four min_four   -- for this text's walks alone
set_option linter.unusedVariables false
set_option linter.unusedSimpArgs false
attribute [local go_sem high] eqA98
def cachepotref1_KeyCommon.l0 : Nat → List Int → List Int → Int → Option (Int)
  | 0, _, _, _ => none
  | k + 1, x5, x7, x9 => if x9 < (x5.length : Int) then (if x9 < (x7.length : Int) then (if 0 ≤ x9 then (if (rd x5 x9) = (rd x7 x9) then (cachepotref1_KeyCommon.l0 k x5 x7 (wrap64 (x9 + 1))) else (some x9)) else (none)) else (some x9)) else (some x9)
def cachepotref1_KeyCommon.f (k : Nat) (a0 : ByteArray) (a1 : ByteArray) : Option (Int) := (cachepotref1_Runes.f k a0).bind fun bt232 => ((cachepotref1_Runes.f k a1).bind fun bt238 => (cachepotref1_KeyCommon.l0 k bt232.1 bt238.1 0))
set_option maxHeartbeats 8000000 in
set_option maxRecDepth 100000 in
theorem cachepotref1_KeyCommon.calls (k : Nat) (a0 : ByteArray) (a1 : ByteArray) (r : Int) (w : World) (h : cachepotref1_KeyCommon.f k a0 a1 = some r) :
    Calls Tryd.prog 132 #[.string a0, .string a1] w fun e w' => e = .returned (.int .i64 r) ∧ Below w.heap.size w w' := by
  have HB := Aside0.mk (Below.refl w.heap.size w)
  have H : ((cachepotref1_Runes.f k a0).bind fun bt232 => ((cachepotref1_Runes.f k a1).bind fun bt238 => (cachepotref1_KeyCommon.l0 k bt232.1 bt238.1 0))) = some r := h
  clear h
  replace H := Option.bind_eq_some_iff.mp H
  obtain ⟨⟨t232, t233⟩, A30, H⟩ := H
  replace H : ((cachepotref1_Runes.f k a1).bind fun bt238 => (cachepotref1_KeyCommon.l0 k t232 bt238.1 0)) = some r := H
  have A3 := Aside0.mk A30
  clear A30
  replace H := Option.bind_eq_some_iff.mp H
  obtain ⟨⟨t238, t239⟩, A40, H⟩ := H
  replace H : (cachepotref1_KeyCommon.l0 k t232 t238 0) = some r := H
  have A4 := Aside0.mk A40
  clear A40
  have H' := Aside0.mk H
  clear H
  go_enter Tryd.func132, Tryd.ntmps132
  go_wp2_with (first | (go_at_call 131; (with_reducible refine (cachepotref1_Runes.calls k a0 t232 t233 _ A3.out).mono ?_); rintro e w5 ⟨v234, v236, rfl, ho0, ho1, hb⟩; have n0_ := Aside0.mk (Kd.R_lower ho0 (below_size (by repeat (first | (with_reducible first | exact HB.out | apply below_alloc | apply pw_below_drewN | apply below_drew1) | exact HB.out)))); have n1_ := Aside0.mk (Kd.R_lower ho1 (below_size (by repeat (first | (with_reducible first | exact HB.out | apply below_alloc | apply pw_below_drewN | apply below_drew1) | exact HB.out)))); have n2_ := Aside0.mk (below_step (by repeat (first | (with_reducible first | exact HB.out | apply below_alloc | apply pw_below_drewN | apply below_drew1) | exact HB.out)) hb); clear HB; have HO235 := n0_; have HO237 := n1_; have HB := n2_; clear n0_ n1_ n2_; (try clear hb); (try clear hb2); (try clear hk); (try clear hi); (try clear ho0); (try clear ho1)) | (go_at_call 131; (with_reducible refine (cachepotref1_Runes.calls k a1 t238 t239 _ A4.out).mono ?_); rintro e w6 ⟨v240, v242, rfl, ho0, ho1, hb⟩; have n0_ := Aside0.mk (Kd.R_mono (Kd.R_told (Kd.R_told (Kd.R_old (by (with_reducible repeat (first | apply Kd.R_alloc | apply Kd.R_drewN | apply Kd.R_drew)); exact HO235.out) hb) (Kd.R_base ho0)) (Kd.R_base ho1)) (fun _ h_ => h_.1)); have n1_ := Aside0.mk (Kd.R_mono (Kd.R_told (Kd.R_told (Kd.R_old (by (with_reducible repeat (first | apply Kd.R_alloc | apply Kd.R_drewN | apply Kd.R_drew)); exact HO237.out) hb) (Kd.R_base ho0)) (Kd.R_base ho1)) (fun _ h_ => h_.1)); have n2_ := Aside0.mk (Kd.R_lower (Kd.R_new' (Kd.R_new' ho0 (Kd.R_lt (by (with_reducible repeat (first | apply Kd.R_alloc | apply Kd.R_drewN | apply Kd.R_drew)); exact HO235.out))) (Kd.R_lt (by (with_reducible repeat (first | apply Kd.R_alloc | apply Kd.R_drewN | apply Kd.R_drew)); exact HO237.out))) (below_size (by repeat (first | (with_reducible first | exact HB.out | apply below_alloc | apply pw_below_drewN | apply below_drew1) | exact HB.out)))); have n3_ := Aside0.mk (Kd.R_lower (Kd.R_new' (Kd.R_new' ho1 (Kd.R_lt (by (with_reducible repeat (first | apply Kd.R_alloc | apply Kd.R_drewN | apply Kd.R_drew)); exact HO235.out))) (Kd.R_lt (by (with_reducible repeat (first | apply Kd.R_alloc | apply Kd.R_drewN | apply Kd.R_drew)); exact HO237.out))) (below_size (by repeat (first | (with_reducible first | exact HB.out | apply below_alloc | apply pw_below_drewN | apply below_drew1) | exact HB.out)))); have n4_ := Aside0.mk (below_step (by repeat (first | (with_reducible first | exact HB.out | apply below_alloc | apply pw_below_drewN | apply below_drew1) | exact HB.out)) hb); clear HO235; clear HO237; clear HB; have HO235 := n0_; have HO237 := n1_; have HO241 := n2_; have HO243 := n3_; have HB := n4_; clear n0_ n1_ n2_ n3_ n4_; (try clear hb); (try clear hb2); (try clear hk); (try clear hi); (try clear ho0); (try clear ho1)))
  repeat (go_quiet (first | (go_at_call 131; (with_reducible refine (cachepotref1_Runes.calls k a0 t232 t233 _ A3.out).mono ?_); rintro e w5 ⟨v234, v236, rfl, ho0, ho1, hb⟩; have n0_ := Aside0.mk (Kd.R_lower ho0 (below_size (by repeat (first | (with_reducible first | exact HB.out | apply below_alloc | apply pw_below_drewN | apply below_drew1) | exact HB.out)))); have n1_ := Aside0.mk (Kd.R_lower ho1 (below_size (by repeat (first | (with_reducible first | exact HB.out | apply below_alloc | apply pw_below_drewN | apply below_drew1) | exact HB.out)))); have n2_ := Aside0.mk (below_step (by repeat (first | (with_reducible first | exact HB.out | apply below_alloc | apply pw_below_drewN | apply below_drew1) | exact HB.out)) hb); clear HB; have HO235 := n0_; have HO237 := n1_; have HB := n2_; clear n0_ n1_ n2_; (try clear hb); (try clear hb2); (try clear hk); (try clear hi); (try clear ho0); (try clear ho1)) | (go_at_call 131; (with_reducible refine (cachepotref1_Runes.calls k a1 t238 t239 _ A4.out).mono ?_); rintro e w6 ⟨v240, v242, rfl, ho0, ho1, hb⟩; have n0_ := Aside0.mk (Kd.R_mono (Kd.R_told (Kd.R_told (Kd.R_old (by (with_reducible repeat (first | apply Kd.R_alloc | apply Kd.R_drewN | apply Kd.R_drew)); exact HO235.out) hb) (Kd.R_base ho0)) (Kd.R_base ho1)) (fun _ h_ => h_.1)); have n1_ := Aside0.mk (Kd.R_mono (Kd.R_told (Kd.R_told (Kd.R_old (by (with_reducible repeat (first | apply Kd.R_alloc | apply Kd.R_drewN | apply Kd.R_drew)); exact HO237.out) hb) (Kd.R_base ho0)) (Kd.R_base ho1)) (fun _ h_ => h_.1)); have n2_ := Aside0.mk (Kd.R_lower (Kd.R_new' (Kd.R_new' ho0 (Kd.R_lt (by (with_reducible repeat (first | apply Kd.R_alloc | apply Kd.R_drewN | apply Kd.R_drew)); exact HO235.out))) (Kd.R_lt (by (with_reducible repeat (first | apply Kd.R_alloc | apply Kd.R_drewN | apply Kd.R_drew)); exact HO237.out))) (below_size (by repeat (first | (with_reducible first | exact HB.out | apply below_alloc | apply pw_below_drewN | apply below_drew1) | exact HB.out)))); have n3_ := Aside0.mk (Kd.R_lower (Kd.R_new' (Kd.R_new' ho1 (Kd.R_lt (by (with_reducible repeat (first | apply Kd.R_alloc | apply Kd.R_drewN | apply Kd.R_drew)); exact HO235.out))) (Kd.R_lt (by (with_reducible repeat (first | apply Kd.R_alloc | apply Kd.R_drewN | apply Kd.R_drew)); exact HO237.out))) (below_size (by repeat (first | (with_reducible first | exact HB.out | apply below_alloc | apply pw_below_drewN | apply below_drew1) | exact HB.out)))); have n4_ := Aside0.mk (below_step (by repeat (first | (with_reducible first | exact HB.out | apply below_alloc | apply pw_below_drewN | apply below_drew1) | exact HB.out)) hb); clear HO235; clear HO237; clear HB; have HO235 := n0_; have HO237 := n1_; have HO241 := n2_; have HO243 := n3_; have HB := n4_; clear n0_ n1_ n2_ n3_ n4_; (try clear hb); (try clear hb2); (try clear hk); (try clear hi); (try clear ho0); (try clear ho1))); try go_wp2_with (first | (go_at_call 131; (with_reducible refine (cachepotref1_Runes.calls k a0 t232 t233 _ A3.out).mono ?_); rintro e w5 ⟨v234, v236, rfl, ho0, ho1, hb⟩; have n0_ := Aside0.mk (Kd.R_lower ho0 (below_size (by repeat (first | (with_reducible first | exact HB.out | apply below_alloc | apply pw_below_drewN | apply below_drew1) | exact HB.out)))); have n1_ := Aside0.mk (Kd.R_lower ho1 (below_size (by repeat (first | (with_reducible first | exact HB.out | apply below_alloc | apply pw_below_drewN | apply below_drew1) | exact HB.out)))); have n2_ := Aside0.mk (below_step (by repeat (first | (with_reducible first | exact HB.out | apply below_alloc | apply pw_below_drewN | apply below_drew1) | exact HB.out)) hb); clear HB; have HO235 := n0_; have HO237 := n1_; have HB := n2_; clear n0_ n1_ n2_; (try clear hb); (try clear hb2); (try clear hk); (try clear hi); (try clear ho0); (try clear ho1)) | (go_at_call 131; (with_reducible refine (cachepotref1_Runes.calls k a1 t238 t239 _ A4.out).mono ?_); rintro e w6 ⟨v240, v242, rfl, ho0, ho1, hb⟩; have n0_ := Aside0.mk (Kd.R_mono (Kd.R_told (Kd.R_told (Kd.R_old (by (with_reducible repeat (first | apply Kd.R_alloc | apply Kd.R_drewN | apply Kd.R_drew)); exact HO235.out) hb) (Kd.R_base ho0)) (Kd.R_base ho1)) (fun _ h_ => h_.1)); have n1_ := Aside0.mk (Kd.R_mono (Kd.R_told (Kd.R_told (Kd.R_old (by (with_reducible repeat (first | apply Kd.R_alloc | apply Kd.R_drewN | apply Kd.R_drew)); exact HO237.out) hb) (Kd.R_base ho0)) (Kd.R_base ho1)) (fun _ h_ => h_.1)); have n2_ := Aside0.mk (Kd.R_lower (Kd.R_new' (Kd.R_new' ho0 (Kd.R_lt (by (with_reducible repeat (first | apply Kd.R_alloc | apply Kd.R_drewN | apply Kd.R_drew)); exact HO235.out))) (Kd.R_lt (by (with_reducible repeat (first | apply Kd.R_alloc | apply Kd.R_drewN | apply Kd.R_drew)); exact HO237.out))) (below_size (by repeat (first | (with_reducible first | exact HB.out | apply below_alloc | apply pw_below_drewN | apply below_drew1) | exact HB.out)))); have n3_ := Aside0.mk (Kd.R_lower (Kd.R_new' (Kd.R_new' ho1 (Kd.R_lt (by (with_reducible repeat (first | apply Kd.R_alloc | apply Kd.R_drewN | apply Kd.R_drew)); exact HO235.out))) (Kd.R_lt (by (with_reducible repeat (first | apply Kd.R_alloc | apply Kd.R_drewN | apply Kd.R_drew)); exact HO237.out))) (below_size (by repeat (first | (with_reducible first | exact HB.out | apply below_alloc | apply pw_below_drewN | apply below_drew1) | exact HB.out)))); have n4_ := Aside0.mk (below_step (by repeat (first | (with_reducible first | exact HB.out | apply below_alloc | apply pw_below_drewN | apply below_drew1) | exact HB.out)) hb); clear HO235; clear HO237; clear HB; have HO235 := n0_; have HO237 := n1_; have HO241 := n2_; have HO243 := n3_; have HB := n4_; clear n0_ n1_ n2_ n3_ n4_; (try clear hb); (try clear hb2); (try clear hk); (try clear hi); (try clear ho0); (try clear ho1))))
  go_loopg [9] k (fun kq v9 w' => ∃ (x9_1 : Int), v9 = .int .i64 x9_1 ∧ Aside0 (cachepotref1_KeyCommon.l0 kq t232 t238 x9_1 = some r) ∧ Aside0 (kq ≤ k) ∧ Aside0 (Kd.R (Kd.int .i64) 3 w' w.heap.size (fun k_ => some k_ ≠ (v240 : Value).ownBlock) v234 t232) ∧ Aside0 (Kd.R (Kd.int .i64) 3 w' w.heap.size (fun k_ => some k_ ≠ (v234 : Value).ownBlock) v240 t238) ∧ Aside0 (Below w.heap.size w w'))
  case atStart => exact ⟨(0), (by first | rfl | (simp; done) | (simp [*]; done)), H', ⟨Nat.le_refl _⟩, ⟨by (with_reducible repeat (first | apply Kd.R_alloc | apply Kd.R_drewN | apply Kd.R_drew)); exact Kd.R_mono HO235.out (fun _ hk => hk.1.2)⟩, ⟨by (with_reducible repeat (first | apply Kd.R_alloc | apply Kd.R_drewN | apply Kd.R_drew)); exact Kd.R_mono HO241.out (fun _ hk => hk.1.2)⟩, ⟨by repeat (first | (with_reducible first | exact HB.out | apply below_alloc | apply pw_below_drewN | apply below_drew1) | exact HB.out)⟩⟩
  case round =>
    clear H'
    try clear c1
    try clear p2
    obtain ⟨x9_1, rfl, HA, HK1, HO_5, HO_7, HB⟩ := hrel
    cases gk with
    | zero => exact absurd HA.out (by simp [cachepotref1_KeyCommon.l0])
    | succ k1 =>
      have H := HA.out
      clear HA
      simp only [cachepotref1_KeyCommon.l0] at H
      by_cases c7 : x9_1 < (t232.length : Int)
      · rw [if_pos c7] at H
        have c7b0 : decide (x9_1 < (t232.length : Int)) = true := decide_eq_true c7
        clear c7
        by_cases c8 : x9_1 < (t238.length : Int)
        · rw [if_pos c8] at H
          have c8b0 : decide (x9_1 < (t238.length : Int)) = true := decide_eq_true c8
          clear c8
          by_cases c9 : 0 ≤ x9_1
          · rw [if_pos c9] at H
            have c9b0 : decide (0 ≤ x9_1) = true := decide_eq_true c9
            clear c9
            by_cases c10 : (rd t232 x9_1) = (rd t238 x9_1)
            · rw [if_pos c10] at H
              have c10b0 : ((rd t232 x9_1) == (rd t238 x9_1)) = true := beq_iff_eq.mpr c10
              have c10b1 : ((rd t232 x9_1) != (rd t238 x9_1)) = false := bne_eq_false_iff_eq.mpr c10
              clear c10
              have H' := Aside0.mk H
              clear H
              obtain ⟨Ao11, co11, eo11⟩ := Kd.R_slice HO_5.out
              subst eo11
              obtain ⟨Ao12, co12, eo12⟩ := Kd.R_slice HO_7.out
              subst eo12
              have p244 : 0 ≤ (x9_1 : Int) := of_decide_eq_true (by first | (with_reducible assumption) | assumption)
              have q244 : x9_1 < (t232.length : Int) := of_decide_eq_true (by first | (with_reducible assumption) | assumption)
              obtain ⟨ad244, e244, hx244_0⟩ := Kd.at_int (Kd.R_reads' HO_5.out).2.2 x9_1 p244 q244
              cases e244
              replace p244 := eq_true p244
              replace q244 := eq_true q244
              have p245 : 0 ≤ (x9_1 : Int) := of_decide_eq_true (by first | (with_reducible assumption) | assumption)
              have q245 : x9_1 < (t238.length : Int) := of_decide_eq_true (by first | (with_reducible assumption) | assumption)
              obtain ⟨ad245, e245, hx245_0⟩ := Kd.at_int (Kd.R_reads' HO_7.out).2.2 x9_1 p245 q245
              cases e245
              replace p245 := eq_true p245
              replace q245 := eq_true q245
              go_wp2
              repeat (go_quiet (fail); try go_wp2)
              go_roundg k1
              case measure => have := HK1.out; omega
              case rel => exact ⟨(wrap64 (x9_1 + 1)), (by first | rfl | (simp; done) | (simp [*]; done)), H', ⟨by have := HK1.out; omega⟩, ⟨by (with_reducible repeat (first | apply Kd.R_alloc | apply Kd.R_drewN | apply Kd.R_drew)); exact HO_5.out⟩, ⟨by (with_reducible repeat (first | apply Kd.R_alloc | apply Kd.R_drewN | apply Kd.R_drew)); exact HO_7.out⟩, ⟨by repeat (first | (with_reducible first | exact HB.out | apply below_alloc | apply pw_below_drewN | apply below_drew1) | exact HB.out)⟩⟩
            · rw [if_neg c10] at H
              have c10b0 : ((rd t232 x9_1) == (rd t238 x9_1)) = false := beq_eq_false_iff_ne.mpr c10
              have c10b1 : ((rd t232 x9_1) != (rd t238 x9_1)) = true := bne_iff_ne.mpr c10
              obtain rfl := Option.some.inj H
              obtain ⟨Ao13, co13, eo13⟩ := Kd.R_slice HO_5.out
              subst eo13
              obtain ⟨Ao14, co14, eo14⟩ := Kd.R_slice HO_7.out
              subst eo14
              have p244 : 0 ≤ (x9_1 : Int) := of_decide_eq_true (by first | (with_reducible assumption) | assumption)
              have q244 : x9_1 < (t232.length : Int) := of_decide_eq_true (by first | (with_reducible assumption) | assumption)
              obtain ⟨ad244, e244, hx244_0⟩ := Kd.at_int (Kd.R_reads' HO_5.out).2.2 x9_1 p244 q244
              cases e244
              replace p244 := eq_true p244
              replace q244 := eq_true q244
              have p245 : 0 ≤ (x9_1 : Int) := of_decide_eq_true (by first | (with_reducible assumption) | assumption)
              have q245 : x9_1 < (t238.length : Int) := of_decide_eq_true (by first | (with_reducible assumption) | assumption)
              obtain ⟨ad245, e245, hx245_0⟩ := Kd.at_int (Kd.R_reads' HO_7.out).2.2 x9_1 p245 q245
              cases e245
              replace p245 := eq_true p245
              replace q245 := eq_true q245
              go_wp2
              repeat (go_quiet (fail); try go_wp2)
              go_ret
              exact ⟨by first | rfl | (simp [errW_none, errW_some] <;> rfl) | (simp [*, errW_none, errW_some] <;> rfl), by repeat (first | (with_reducible first | exact HB.out | apply below_alloc | apply pw_below_drewN | apply below_drew1) | exact HB.out)⟩
          · rw [if_neg c9] at H
            exact absurd H (by simp)
        · rw [if_neg c8] at H
          have c8b0 : decide (x9_1 < (t238.length : Int)) = false := decide_eq_false c8
          clear c8
          obtain rfl := Option.some.inj H
          obtain ⟨Ao15, co15, eo15⟩ := Kd.R_slice HO_5.out
          subst eo15
          obtain ⟨Ao16, co16, eo16⟩ := Kd.R_slice HO_7.out
          subst eo16
          go_wp2
          repeat (go_quiet (fail); try go_wp2)
          go_ret
          exact ⟨by first | rfl | (simp [errW_none, errW_some] <;> rfl) | (simp [*, errW_none, errW_some] <;> rfl), by repeat (first | (with_reducible first | exact HB.out | apply below_alloc | apply pw_below_drewN | apply below_drew1) | exact HB.out)⟩
      · rw [if_neg c7] at H
        have c7b0 : decide (x9_1 < (t232.length : Int)) = false := decide_eq_false c7
        clear c7
        obtain rfl := Option.some.inj H
        obtain ⟨Ao17, co17, eo17⟩ := Kd.R_slice HO_5.out
        subst eo17
        go_wp2
        repeat (go_quiet (fail); try go_wp2)
        go_ret
        exact ⟨by first | rfl | (simp [errW_none, errW_some] <;> rfl) | (simp [*, errW_none, errW_some] <;> rfl), by repeat (first | (with_reducible first | exact HB.out | apply below_alloc | apply pw_below_drewN | apply below_drew1) | exact HB.out)⟩
def cachepotref1_KeyCmp.j0 : Nat → List Int → List Int → Int → Bool → Option (Int)
  | 0, _, _, _, _ => none
  | k + 1, x5, x7, x9, x23 => if x23 = true then (some 0) else (if x9 = (x5.length : Int) then (some (-1)) else (if x9 = (x7.length : Int) then (some 1) else (if 0 ≤ x9 then (if x9 < (x5.length : Int) then (if x9 < (x7.length : Int) then (if (rd x5 x9) < (rd x7 x9) then (some (-1)) else (some 1)) else (none)) else (none)) else (none))))
def cachepotref1_KeyCmp.f (k : Nat) (a0 : ByteArray) (a1 : ByteArray) : Option (Int) := (cachepotref1_Runes.f k a0).bind fun bt246 => ((cachepotref1_Runes.f k a1).bind fun bt252 => ((cachepotref1_KeyCommon.f k a0 a1).bind fun t258 => (if t258 = (bt246.1.length : Int) then (cachepotref1_KeyCmp.j0 k bt246.1 bt252.1 t258 (t258 == (bt252.1.length : Int))) else (cachepotref1_KeyCmp.j0 k bt246.1 bt252.1 t258 false))))
set_option maxHeartbeats 8000000 in
set_option maxRecDepth 100000 in
theorem cachepotref1_KeyCmp.calls (k : Nat) (a0 : ByteArray) (a1 : ByteArray) (r : Int) (w : World) (h : cachepotref1_KeyCmp.f k a0 a1 = some r) :
    Calls Tryd.prog 121 #[.string a0, .string a1] w fun e w' => e = .returned (.int .i64 r) ∧ Below w.heap.size w w' := by
  have HB := Aside0.mk (Below.refl w.heap.size w)
  have H : ((cachepotref1_Runes.f k a0).bind fun bt246 => ((cachepotref1_Runes.f k a1).bind fun bt252 => ((cachepotref1_KeyCommon.f k a0 a1).bind fun t258 => (if t258 = (bt246.1.length : Int) then (cachepotref1_KeyCmp.j0 k bt246.1 bt252.1 t258 (t258 == (bt252.1.length : Int))) else (cachepotref1_KeyCmp.j0 k bt246.1 bt252.1 t258 false))))) = some r := h
  clear h
  replace H := Option.bind_eq_some_iff.mp H
  obtain ⟨⟨t246, t247⟩, A30, H⟩ := H
  replace H : ((cachepotref1_Runes.f k a1).bind fun bt252 => ((cachepotref1_KeyCommon.f k a0 a1).bind fun t258 => (if t258 = (t246.length : Int) then (cachepotref1_KeyCmp.j0 k t246 bt252.1 t258 (t258 == (bt252.1.length : Int))) else (cachepotref1_KeyCmp.j0 k t246 bt252.1 t258 false)))) = some r := H
  have A3 := Aside0.mk A30
  clear A30
  replace H := Option.bind_eq_some_iff.mp H
  obtain ⟨⟨t252, t253⟩, A40, H⟩ := H
  replace H : ((cachepotref1_KeyCommon.f k a0 a1).bind fun t258 => (if t258 = (t246.length : Int) then (cachepotref1_KeyCmp.j0 k t246 t252 t258 (t258 == (t252.length : Int))) else (cachepotref1_KeyCmp.j0 k t246 t252 t258 false))) = some r := H
  have A4 := Aside0.mk A40
  clear A40
  replace H := Option.bind_eq_some_iff.mp H
  obtain ⟨t258, A50, H⟩ := H
  replace H : (if t258 = (t246.length : Int) then (cachepotref1_KeyCmp.j0 k t246 t252 t258 (t258 == (t252.length : Int))) else (cachepotref1_KeyCmp.j0 k t246 t252 t258 false)) = some r := H
  have A5 := Aside0.mk A50
  clear A50
  have HC6 := Aside0.mk H
  clear H
  go_enter Tryd.func121, Tryd.ntmps121
  go_upto_region 4 with (first | (go_at_call 131; (with_reducible refine (cachepotref1_Runes.calls k a0 t246 t247 _ A3.out).mono ?_); rintro e w7 ⟨v248, v250, rfl, ho0, ho1, hb⟩; have n0_ := Aside0.mk (Kd.R_lower ho0 (below_size (by repeat (first | (with_reducible first | exact HB.out | apply below_alloc | apply pw_below_drewN | apply below_drew1) | exact HB.out)))); have n1_ := Aside0.mk (Kd.R_lower ho1 (below_size (by repeat (first | (with_reducible first | exact HB.out | apply below_alloc | apply pw_below_drewN | apply below_drew1) | exact HB.out)))); have n2_ := Aside0.mk (below_step (by repeat (first | (with_reducible first | exact HB.out | apply below_alloc | apply pw_below_drewN | apply below_drew1) | exact HB.out)) hb); clear HB; have HO249 := n0_; have HO251 := n1_; have HB := n2_; clear n0_ n1_ n2_; (try clear hb); (try clear hb2); (try clear hk); (try clear hi); (try clear ho0); (try clear ho1)) | (go_at_call 131; (with_reducible refine (cachepotref1_Runes.calls k a1 t252 t253 _ A4.out).mono ?_); rintro e w8 ⟨v254, v256, rfl, ho0, ho1, hb⟩; have n0_ := Aside0.mk (Kd.R_mono (Kd.R_told (Kd.R_told (Kd.R_old (by (with_reducible repeat (first | apply Kd.R_alloc | apply Kd.R_drewN | apply Kd.R_drew)); exact HO249.out) hb) (Kd.R_base ho0)) (Kd.R_base ho1)) (fun _ h_ => h_.1)); have n1_ := Aside0.mk (Kd.R_mono (Kd.R_told (Kd.R_told (Kd.R_old (by (with_reducible repeat (first | apply Kd.R_alloc | apply Kd.R_drewN | apply Kd.R_drew)); exact HO251.out) hb) (Kd.R_base ho0)) (Kd.R_base ho1)) (fun _ h_ => h_.1)); have n2_ := Aside0.mk (Kd.R_lower (Kd.R_new' (Kd.R_new' ho0 (Kd.R_lt (by (with_reducible repeat (first | apply Kd.R_alloc | apply Kd.R_drewN | apply Kd.R_drew)); exact HO249.out))) (Kd.R_lt (by (with_reducible repeat (first | apply Kd.R_alloc | apply Kd.R_drewN | apply Kd.R_drew)); exact HO251.out))) (below_size (by repeat (first | (with_reducible first | exact HB.out | apply below_alloc | apply pw_below_drewN | apply below_drew1) | exact HB.out)))); have n3_ := Aside0.mk (Kd.R_lower (Kd.R_new' (Kd.R_new' ho1 (Kd.R_lt (by (with_reducible repeat (first | apply Kd.R_alloc | apply Kd.R_drewN | apply Kd.R_drew)); exact HO249.out))) (Kd.R_lt (by (with_reducible repeat (first | apply Kd.R_alloc | apply Kd.R_drewN | apply Kd.R_drew)); exact HO251.out))) (below_size (by repeat (first | (with_reducible first | exact HB.out | apply below_alloc | apply pw_below_drewN | apply below_drew1) | exact HB.out)))); have n4_ := Aside0.mk (below_step (by repeat (first | (with_reducible first | exact HB.out | apply below_alloc | apply pw_below_drewN | apply below_drew1) | exact HB.out)) hb); clear HO249; clear HO251; clear HB; have HO249 := n0_; have HO251 := n1_; have HO255 := n2_; have HO257 := n3_; have HB := n4_; clear n0_ n1_ n2_ n3_ n4_; (try clear hb); (try clear hb2); (try clear hk); (try clear hi); (try clear ho0); (try clear ho1)) | (go_at_call 132; (with_reducible refine (cachepotref1_KeyCommon.calls k a0 a1 t258 _ A5.out).mono ?_); rintro e w9 ⟨rfl, hb⟩; have n0_ := Aside0.mk (Kd.R_below (by (with_reducible repeat (first | apply Kd.R_alloc | apply Kd.R_drewN | apply Kd.R_drew)); exact HO249.out) hb); have n1_ := Aside0.mk (Kd.R_below (by (with_reducible repeat (first | apply Kd.R_alloc | apply Kd.R_drewN | apply Kd.R_drew)); exact HO251.out) hb); have n2_ := Aside0.mk (Kd.R_below (by (with_reducible repeat (first | apply Kd.R_alloc | apply Kd.R_drewN | apply Kd.R_drew)); exact HO255.out) hb); have n3_ := Aside0.mk (Kd.R_below (by (with_reducible repeat (first | apply Kd.R_alloc | apply Kd.R_drewN | apply Kd.R_drew)); exact HO257.out) hb); have n4_ := Aside0.mk (below_step (by repeat (first | (with_reducible first | exact HB.out | apply below_alloc | apply pw_below_drewN | apply below_drew1) | exact HB.out)) hb); clear HO249; clear HO251; clear HO255; clear HO257; clear HB; have HO249 := n0_; have HO251 := n1_; have HO255 := n2_; have HO257 := n3_; have HB := n4_; clear n0_ n1_ n2_ n3_ n4_; (try clear hb); (try clear hb2); (try clear hk); (try clear hi)))
  repeat (go_quiet (first | (go_at_call 131; (with_reducible refine (cachepotref1_Runes.calls k a0 t246 t247 _ A3.out).mono ?_); rintro e w7 ⟨v248, v250, rfl, ho0, ho1, hb⟩; have n0_ := Aside0.mk (Kd.R_lower ho0 (below_size (by repeat (first | (with_reducible first | exact HB.out | apply below_alloc | apply pw_below_drewN | apply below_drew1) | exact HB.out)))); have n1_ := Aside0.mk (Kd.R_lower ho1 (below_size (by repeat (first | (with_reducible first | exact HB.out | apply below_alloc | apply pw_below_drewN | apply below_drew1) | exact HB.out)))); have n2_ := Aside0.mk (below_step (by repeat (first | (with_reducible first | exact HB.out | apply below_alloc | apply pw_below_drewN | apply below_drew1) | exact HB.out)) hb); clear HB; have HO249 := n0_; have HO251 := n1_; have HB := n2_; clear n0_ n1_ n2_; (try clear hb); (try clear hb2); (try clear hk); (try clear hi); (try clear ho0); (try clear ho1)) | (go_at_call 131; (with_reducible refine (cachepotref1_Runes.calls k a1 t252 t253 _ A4.out).mono ?_); rintro e w8 ⟨v254, v256, rfl, ho0, ho1, hb⟩; have n0_ := Aside0.mk (Kd.R_mono (Kd.R_told (Kd.R_told (Kd.R_old (by (with_reducible repeat (first | apply Kd.R_alloc | apply Kd.R_drewN | apply Kd.R_drew)); exact HO249.out) hb) (Kd.R_base ho0)) (Kd.R_base ho1)) (fun _ h_ => h_.1)); have n1_ := Aside0.mk (Kd.R_mono (Kd.R_told (Kd.R_told (Kd.R_old (by (with_reducible repeat (first | apply Kd.R_alloc | apply Kd.R_drewN | apply Kd.R_drew)); exact HO251.out) hb) (Kd.R_base ho0)) (Kd.R_base ho1)) (fun _ h_ => h_.1)); have n2_ := Aside0.mk (Kd.R_lower (Kd.R_new' (Kd.R_new' ho0 (Kd.R_lt (by (with_reducible repeat (first | apply Kd.R_alloc | apply Kd.R_drewN | apply Kd.R_drew)); exact HO249.out))) (Kd.R_lt (by (with_reducible repeat (first | apply Kd.R_alloc | apply Kd.R_drewN | apply Kd.R_drew)); exact HO251.out))) (below_size (by repeat (first | (with_reducible first | exact HB.out | apply below_alloc | apply pw_below_drewN | apply below_drew1) | exact HB.out)))); have n3_ := Aside0.mk (Kd.R_lower (Kd.R_new' (Kd.R_new' ho1 (Kd.R_lt (by (with_reducible repeat (first | apply Kd.R_alloc | apply Kd.R_drewN | apply Kd.R_drew)); exact HO249.out))) (Kd.R_lt (by (with_reducible repeat (first | apply Kd.R_alloc | apply Kd.R_drewN | apply Kd.R_drew)); exact HO251.out))) (below_size (by repeat (first | (with_reducible first | exact HB.out | apply below_alloc | apply pw_below_drewN | apply below_drew1) | exact HB.out)))); have n4_ := Aside0.mk (below_step (by repeat (first | (with_reducible first | exact HB.out | apply below_alloc | apply pw_below_drewN | apply below_drew1) | exact HB.out)) hb); clear HO249; clear HO251; clear HB; have HO249 := n0_; have HO251 := n1_; have HO255 := n2_; have HO257 := n3_; have HB := n4_; clear n0_ n1_ n2_ n3_ n4_; (try clear hb); (try clear hb2); (try clear hk); (try clear hi); (try clear ho0); (try clear ho1)) | (go_at_call 132; (with_reducible refine (cachepotref1_KeyCommon.calls k a0 a1 t258 _ A5.out).mono ?_); rintro e w9 ⟨rfl, hb⟩; have n0_ := Aside0.mk (Kd.R_below (by (with_reducible repeat (first | apply Kd.R_alloc | apply Kd.R_drewN | apply Kd.R_drew)); exact HO249.out) hb); have n1_ := Aside0.mk (Kd.R_below (by (with_reducible repeat (first | apply Kd.R_alloc | apply Kd.R_drewN | apply Kd.R_drew)); exact HO251.out) hb); have n2_ := Aside0.mk (Kd.R_below (by (with_reducible repeat (first | apply Kd.R_alloc | apply Kd.R_drewN | apply Kd.R_drew)); exact HO255.out) hb); have n3_ := Aside0.mk (Kd.R_below (by (with_reducible repeat (first | apply Kd.R_alloc | apply Kd.R_drewN | apply Kd.R_drew)); exact HO257.out) hb); have n4_ := Aside0.mk (below_step (by repeat (first | (with_reducible first | exact HB.out | apply below_alloc | apply pw_below_drewN | apply below_drew1) | exact HB.out)) hb); clear HO249; clear HO251; clear HO255; clear HO257; clear HB; have HO249 := n0_; have HO251 := n1_; have HO255 := n2_; have HO257 := n3_; have HB := n4_; clear n0_ n1_ n2_ n3_ n4_; (try clear hb); (try clear hb2); (try clear hk); (try clear hi))); go_upto_region 4 with (first | (go_at_call 131; (with_reducible refine (cachepotref1_Runes.calls k a0 t246 t247 _ A3.out).mono ?_); rintro e w7 ⟨v248, v250, rfl, ho0, ho1, hb⟩; have n0_ := Aside0.mk (Kd.R_lower ho0 (below_size (by repeat (first | (with_reducible first | exact HB.out | apply below_alloc | apply pw_below_drewN | apply below_drew1) | exact HB.out)))); have n1_ := Aside0.mk (Kd.R_lower ho1 (below_size (by repeat (first | (with_reducible first | exact HB.out | apply below_alloc | apply pw_below_drewN | apply below_drew1) | exact HB.out)))); have n2_ := Aside0.mk (below_step (by repeat (first | (with_reducible first | exact HB.out | apply below_alloc | apply pw_below_drewN | apply below_drew1) | exact HB.out)) hb); clear HB; have HO249 := n0_; have HO251 := n1_; have HB := n2_; clear n0_ n1_ n2_; (try clear hb); (try clear hb2); (try clear hk); (try clear hi); (try clear ho0); (try clear ho1)) | (go_at_call 131; (with_reducible refine (cachepotref1_Runes.calls k a1 t252 t253 _ A4.out).mono ?_); rintro e w8 ⟨v254, v256, rfl, ho0, ho1, hb⟩; have n0_ := Aside0.mk (Kd.R_mono (Kd.R_told (Kd.R_told (Kd.R_old (by (with_reducible repeat (first | apply Kd.R_alloc | apply Kd.R_drewN | apply Kd.R_drew)); exact HO249.out) hb) (Kd.R_base ho0)) (Kd.R_base ho1)) (fun _ h_ => h_.1)); have n1_ := Aside0.mk (Kd.R_mono (Kd.R_told (Kd.R_told (Kd.R_old (by (with_reducible repeat (first | apply Kd.R_alloc | apply Kd.R_drewN | apply Kd.R_drew)); exact HO251.out) hb) (Kd.R_base ho0)) (Kd.R_base ho1)) (fun _ h_ => h_.1)); have n2_ := Aside0.mk (Kd.R_lower (Kd.R_new' (Kd.R_new' ho0 (Kd.R_lt (by (with_reducible repeat (first | apply Kd.R_alloc | apply Kd.R_drewN | apply Kd.R_drew)); exact HO249.out))) (Kd.R_lt (by (with_reducible repeat (first | apply Kd.R_alloc | apply Kd.R_drewN | apply Kd.R_drew)); exact HO251.out))) (below_size (by repeat (first | (with_reducible first | exact HB.out | apply below_alloc | apply pw_below_drewN | apply below_drew1) | exact HB.out)))); have n3_ := Aside0.mk (Kd.R_lower (Kd.R_new' (Kd.R_new' ho1 (Kd.R_lt (by (with_reducible repeat (first | apply Kd.R_alloc | apply Kd.R_drewN | apply Kd.R_drew)); exact HO249.out))) (Kd.R_lt (by (with_reducible repeat (first | apply Kd.R_alloc | apply Kd.R_drewN | apply Kd.R_drew)); exact HO251.out))) (below_size (by repeat (first | (with_reducible first | exact HB.out | apply below_alloc | apply pw_below_drewN | apply below_drew1) | exact HB.out)))); have n4_ := Aside0.mk (below_step (by repeat (first | (with_reducible first | exact HB.out | apply below_alloc | apply pw_below_drewN | apply below_drew1) | exact HB.out)) hb); clear HO249; clear HO251; clear HB; have HO249 := n0_; have HO251 := n1_; have HO255 := n2_; have HO257 := n3_; have HB := n4_; clear n0_ n1_ n2_ n3_ n4_; (try clear hb); (try clear hb2); (try clear hk); (try clear hi); (try clear ho0); (try clear ho1)) | (go_at_call 132; (with_reducible refine (cachepotref1_KeyCommon.calls k a0 a1 t258 _ A5.out).mono ?_); rintro e w9 ⟨rfl, hb⟩; have n0_ := Aside0.mk (Kd.R_below (by (with_reducible repeat (first | apply Kd.R_alloc | apply Kd.R_drewN | apply Kd.R_drew)); exact HO249.out) hb); have n1_ := Aside0.mk (Kd.R_below (by (with_reducible repeat (first | apply Kd.R_alloc | apply Kd.R_drewN | apply Kd.R_drew)); exact HO251.out) hb); have n2_ := Aside0.mk (Kd.R_below (by (with_reducible repeat (first | apply Kd.R_alloc | apply Kd.R_drewN | apply Kd.R_drew)); exact HO255.out) hb); have n3_ := Aside0.mk (Kd.R_below (by (with_reducible repeat (first | apply Kd.R_alloc | apply Kd.R_drewN | apply Kd.R_drew)); exact HO257.out) hb); have n4_ := Aside0.mk (below_step (by repeat (first | (with_reducible first | exact HB.out | apply below_alloc | apply pw_below_drewN | apply below_drew1) | exact HB.out)) hb); clear HO249; clear HO251; clear HO255; clear HO257; clear HB; have HO249 := n0_; have HO251 := n1_; have HO255 := n2_; have HO257 := n3_; have HB := n4_; clear n0_ n1_ n2_ n3_ n4_; (try clear hb); (try clear hb2); (try clear hk); (try clear hi))))
  (try simp only [Act.put, List.setIfInBounds_toArray, List.set_cons_zero, List.set_cons_succ])
  go_cut [23] (fun v23 wc => ∃ (kq : Nat) (x23_5 : Bool), v23 = .bool x23_5 ∧ Aside0 (cachepotref1_KeyCmp.j0 kq t246 t252 t258 x23_5 = some r) ∧ Aside0 (kq ≤ k) ∧ Aside0 (Kd.R (Kd.int .i64) 3 wc w.heap.size (fun k_ => some k_ ≠ (v254 : Value).ownBlock) v248 t246) ∧ Aside0 (Kd.R (Kd.int .i64) 3 wc w.heap.size (fun k_ => some k_ ≠ (v248 : Value).ownBlock) v254 t252) ∧ Aside0 (Below w.heap.size w wc))
  case first =>
    have H := HC6.out
    clear HC6
    by_cases c10 : t258 = (t246.length : Int)
    · rw [if_pos c10] at H
      have c10b0 : (t258 == (t246.length : Int)) = true := beq_iff_eq.mpr c10
      have c10b1 : (t258 != (t246.length : Int)) = false := bne_eq_false_iff_eq.mpr c10
      clear c10
      (first | rw [c10b0] | (simp only [i64_w, i32_w]; rw [c10b0]) | skip)
      have H' := Aside0.mk H
      clear H
      obtain ⟨Ao11, co11, eo11⟩ := Kd.R_slice HO249.out
      subst eo11
      obtain ⟨Ao12, co12, eo12⟩ := Kd.R_slice HO255.out
      subst eo12
      go_wp2
      repeat (go_quiet (fail); try go_wp2)
      go_meet
      case rel => exact ⟨_, ((t258 == (t252.length : Int))), (by first | rfl | (simp; done) | (simp [*]; done)), H', ⟨by first | omega | exact Nat.le_refl _⟩, ⟨by (with_reducible repeat (first | apply Kd.R_alloc | apply Kd.R_drewN | apply Kd.R_drew)); exact Kd.R_mono HO249.out (fun _ hk => hk.1.2)⟩, ⟨by (with_reducible repeat (first | apply Kd.R_alloc | apply Kd.R_drewN | apply Kd.R_drew)); exact Kd.R_mono HO255.out (fun _ hk => hk.1.2)⟩, ⟨by repeat (first | (with_reducible first | exact HB.out | apply below_alloc | apply pw_below_drewN | apply below_drew1) | exact HB.out)⟩⟩
    · rw [if_neg c10] at H
      have c10b0 : (t258 == (t246.length : Int)) = false := beq_eq_false_iff_ne.mpr c10
      have c10b1 : (t258 != (t246.length : Int)) = true := bne_iff_ne.mpr c10
      (first | rw [c10b0] | (simp only [i64_w, i32_w]; rw [c10b0]) | skip)
      have H' := Aside0.mk H
      clear H
      obtain ⟨Ao13, co13, eo13⟩ := Kd.R_slice HO249.out
      subst eo13
      go_wp2
      repeat (go_quiet (fail); try go_wp2)
      go_meet
      case rel => exact ⟨_, (false), (by first | rfl | (simp; done) | (simp [*]; done)), H', ⟨by first | omega | exact Nat.le_refl _⟩, ⟨by (with_reducible repeat (first | apply Kd.R_alloc | apply Kd.R_drewN | apply Kd.R_drew)); exact Kd.R_mono HO249.out (fun _ hk => hk.1.2)⟩, ⟨by (with_reducible repeat (first | apply Kd.R_alloc | apply Kd.R_drewN | apply Kd.R_drew)); exact Kd.R_mono HO255.out (fun _ hk => hk.1.2)⟩, ⟨by repeat (first | (with_reducible first | exact HB.out | apply below_alloc | apply pw_below_drewN | apply below_drew1) | exact HB.out)⟩⟩
  case rest =>
    clear HC6
    try clear c1
    try clear p2
    try clear c10
    try clear c10b0
    try clear c10b1
    try clear c12
    obtain ⟨kq, x23_5, rfl, HA, HJ5, HO_5, HO_7, HB⟩ := hcut
    cases kq with
    | zero => exact absurd HA.out (by simp [cachepotref1_KeyCmp.j0])
    | succ kj5 =>
      have H := HA.out
      clear HA
      simp only [cachepotref1_KeyCmp.j0] at H
      by_cases c14 : x23_5 = true
      · subst c14
        have H1 : (some 0) = some r := by rw [if_pos rfl] at H; exact H
        clear H
        have H := H1
        clear H1
        obtain rfl := Option.some.inj H
        go_wp2
        repeat (go_quiet (fail); try go_wp2)
        go_ret
        exact ⟨by first | rfl | (simp [errW_none, errW_some] <;> rfl) | (simp [*, errW_none, errW_some] <;> rfl), by repeat (first | (with_reducible first | exact HB.out | apply below_alloc | apply pw_below_drewN | apply below_drew1) | exact HB.out)⟩
      · replace c14 := Bool.eq_false_iff.mpr c14
        subst c14
        have H1 : (if t258 = (t246.length : Int) then (some (-1)) else (if t258 = (t252.length : Int) then (some 1) else (if 0 ≤ t258 then (if t258 < (t246.length : Int) then (if t258 < (t252.length : Int) then (if (rd t246 t258) < (rd t252 t258) then (some (-1)) else (some 1)) else (none)) else (none)) else (none)))) = some r := by rw [if_neg (show ¬ (false = true) by decide)] at H; exact H
        clear H
        have H := H1
        clear H1
        by_cases c15 : t258 = (t246.length : Int)
        · rw [if_pos c15] at H
          have c15b0 : (t258 == (t246.length : Int)) = true := beq_iff_eq.mpr c15
          have c15b1 : (t258 != (t246.length : Int)) = false := bne_eq_false_iff_eq.mpr c15
          clear c15
          obtain rfl := Option.some.inj H
          obtain ⟨Ao16, co16, eo16⟩ := Kd.R_slice HO_5.out
          subst eo16
          go_wp2
          repeat (go_quiet (fail); try go_wp2)
          go_ret
          exact ⟨by first | rfl | (simp [errW_none, errW_some] <;> rfl) | (simp [*, errW_none, errW_some] <;> rfl), by repeat (first | (with_reducible first | exact HB.out | apply below_alloc | apply pw_below_drewN | apply below_drew1) | exact HB.out)⟩
        · rw [if_neg c15] at H
          have c15b0 : (t258 == (t246.length : Int)) = false := beq_eq_false_iff_ne.mpr c15
          have c15b1 : (t258 != (t246.length : Int)) = true := bne_iff_ne.mpr c15
          by_cases c17 : t258 = (t252.length : Int)
          · rw [if_pos c17] at H
            have c17b0 : (t258 == (t252.length : Int)) = true := beq_iff_eq.mpr c17
            have c17b1 : (t258 != (t252.length : Int)) = false := bne_eq_false_iff_eq.mpr c17
            clear c17
            obtain rfl := Option.some.inj H
            obtain ⟨Ao18, co18, eo18⟩ := Kd.R_slice HO_5.out
            subst eo18
            obtain ⟨Ao19, co19, eo19⟩ := Kd.R_slice HO_7.out
            subst eo19
            go_wp2
            repeat (go_quiet (fail); try go_wp2)
            go_ret
            exact ⟨by first | rfl | (simp [errW_none, errW_some] <;> rfl) | (simp [*, errW_none, errW_some] <;> rfl), by repeat (first | (with_reducible first | exact HB.out | apply below_alloc | apply pw_below_drewN | apply below_drew1) | exact HB.out)⟩
          · rw [if_neg c17] at H
            have c17b0 : (t258 == (t252.length : Int)) = false := beq_eq_false_iff_ne.mpr c17
            have c17b1 : (t258 != (t252.length : Int)) = true := bne_iff_ne.mpr c17
            by_cases c20 : 0 ≤ t258
            · rw [if_pos c20] at H
              have c20b0 : decide (0 ≤ t258) = true := decide_eq_true c20
              clear c20
              by_cases c21 : t258 < (t246.length : Int)
              · rw [if_pos c21] at H
                have c21b0 : decide (t258 < (t246.length : Int)) = true := decide_eq_true c21
                clear c21
                by_cases c22 : t258 < (t252.length : Int)
                · rw [if_pos c22] at H
                  have c22b0 : decide (t258 < (t252.length : Int)) = true := decide_eq_true c22
                  clear c22
                  by_cases c23 : (rd t246 t258) < (rd t252 t258)
                  · rw [if_pos c23] at H
                    have c23b0 : decide ((rd t246 t258) < (rd t252 t258)) = true := decide_eq_true c23
                    clear c23
                    obtain rfl := Option.some.inj H
                    obtain ⟨Ao24, co24, eo24⟩ := Kd.R_slice HO_5.out
                    subst eo24
                    obtain ⟨Ao25, co25, eo25⟩ := Kd.R_slice HO_7.out
                    subst eo25
                    have p259 : 0 ≤ (t258 : Int) := of_decide_eq_true (by first | (with_reducible assumption) | assumption)
                    have q259 : t258 < (t246.length : Int) := of_decide_eq_true (by first | (with_reducible assumption) | assumption)
                    obtain ⟨ad259, e259, hx259_0⟩ := Kd.at_int (Kd.R_reads' HO_5.out).2.2 t258 p259 q259
                    cases e259
                    replace p259 := eq_true p259
                    replace q259 := eq_true q259
                    have p260 : 0 ≤ (t258 : Int) := of_decide_eq_true (by first | (with_reducible assumption) | assumption)
                    have q260 : t258 < (t252.length : Int) := of_decide_eq_true (by first | (with_reducible assumption) | assumption)
                    obtain ⟨ad260, e260, hx260_0⟩ := Kd.at_int (Kd.R_reads' HO_7.out).2.2 t258 p260 q260
                    cases e260
                    replace p260 := eq_true p260
                    replace q260 := eq_true q260
                    go_wp2
                    repeat (go_quiet (fail); try go_wp2)
                    go_ret
                    exact ⟨by first | rfl | (simp [errW_none, errW_some] <;> rfl) | (simp [*, errW_none, errW_some] <;> rfl), by repeat (first | (with_reducible first | exact HB.out | apply below_alloc | apply pw_below_drewN | apply below_drew1) | exact HB.out)⟩
                  · rw [if_neg c23] at H
                    have c23b0 : decide ((rd t246 t258) < (rd t252 t258)) = false := decide_eq_false c23
                    clear c23
                    obtain rfl := Option.some.inj H
                    obtain ⟨Ao26, co26, eo26⟩ := Kd.R_slice HO_5.out
                    subst eo26
                    obtain ⟨Ao27, co27, eo27⟩ := Kd.R_slice HO_7.out
                    subst eo27
                    have p259 : 0 ≤ (t258 : Int) := of_decide_eq_true (by first | (with_reducible assumption) | assumption)
                    have q259 : t258 < (t246.length : Int) := of_decide_eq_true (by first | (with_reducible assumption) | assumption)
                    obtain ⟨ad259, e259, hx259_0⟩ := Kd.at_int (Kd.R_reads' HO_5.out).2.2 t258 p259 q259
                    cases e259
                    replace p259 := eq_true p259
                    replace q259 := eq_true q259
                    have p260 : 0 ≤ (t258 : Int) := of_decide_eq_true (by first | (with_reducible assumption) | assumption)
                    have q260 : t258 < (t252.length : Int) := of_decide_eq_true (by first | (with_reducible assumption) | assumption)
                    obtain ⟨ad260, e260, hx260_0⟩ := Kd.at_int (Kd.R_reads' HO_7.out).2.2 t258 p260 q260
                    cases e260
                    replace p260 := eq_true p260
                    replace q260 := eq_true q260
                    go_wp2
                    repeat (go_quiet (fail); try go_wp2)
                    go_ret
                    exact ⟨by first | rfl | (simp [errW_none, errW_some] <;> rfl) | (simp [*, errW_none, errW_some] <;> rfl), by repeat (first | (with_reducible first | exact HB.out | apply below_alloc | apply pw_below_drewN | apply below_drew1) | exact HB.out)⟩
                · rw [if_neg c22] at H
                  exact absurd H (by simp)
              · rw [if_neg c21] at H
                exact absurd H (by simp)
            · rw [if_neg c20] at H
              exact absurd H (by simp)
def cachepotref1_Ahead.f (k : Nat) (a0 : ByteArray) (a1 : ByteArray) : Option (Bool) := (cachepotref1_KeyCmp.f k a0 a1).bind fun t261 => (if t261 < 0 then (some true) else (if t261 = 0 then (some (Op.bytesLess a0.toList a1.toList)) else (some false)))
set_option maxHeartbeats 8000000 in
set_option maxRecDepth 100000 in
theorem cachepotref1_Ahead.calls (k : Nat) (a0 : ByteArray) (a1 : ByteArray) (r : Bool) (w : World) (h : cachepotref1_Ahead.f k a0 a1 = some r) :
    Calls Tryd.prog 102 #[.string a0, .string a1] w fun e w' => e = .returned (.bool r) ∧ Below w.heap.size w w' := by
  have HB := Aside0.mk (Below.refl w.heap.size w)
  have H : ((cachepotref1_KeyCmp.f k a0 a1).bind fun t261 => (if t261 < 0 then (some true) else (if t261 = 0 then (some (Op.bytesLess a0.toList a1.toList)) else (some false)))) = some r := h
  clear h
  replace H := Option.bind_eq_some_iff.mp H
  obtain ⟨t261, A30, H⟩ := H
  replace H : (if t261 < 0 then (some true) else (if t261 = 0 then (some (Op.bytesLess a0.toList a1.toList)) else (some false))) = some r := H
  have A3 := Aside0.mk A30
  clear A30
  by_cases c4 : t261 < 0
  · rw [if_pos c4] at H
    have c4b0 : decide (t261 < 0) = true := decide_eq_true c4
    clear c4
    obtain rfl := Option.some.inj H
    go_enter Tryd.func102, Tryd.ntmps102
    go_wp2_with (first | ((with_reducible refine gate_callee (f := 121) rfl ?_); refine goesL_ (some 8) rfl rfl Tryd.func121 (by kernel_rfl) rfl #[.string a0, .string a1] rfl (by (try simp only [List.map_toArray, List.map_cons, List.map_nil]); first | done | rfl | (simp only [List.length_drop, List.length_take]; rfl)) ?_; (with_reducible refine (cachepotref1_KeyCmp.calls k a0 a1 t261 _ A3.out).mono ?_); rintro e w5 ⟨rfl, hb⟩; refine ⟨_, rfl, ?_⟩; have n0_ := Aside0.mk (below_step (by repeat (first | (with_reducible first | exact HB.out | apply below_alloc | apply pw_below_drewN | apply below_drew1) | exact HB.out)) hb); clear HB; have HB := n0_; clear n0_; (try clear hb); (try clear hb2); (try clear hk); (try clear hi)))
    go_ret
    exact ⟨by first | rfl | (simp [errW_none, errW_some] <;> rfl) | (simp [*, errW_none, errW_some] <;> rfl), by repeat (first | (with_reducible first | exact HB.out | apply below_alloc | apply pw_below_drewN | apply below_drew1) | exact HB.out)⟩
  · rw [if_neg c4] at H
    have c4b0 : decide (t261 < 0) = false := decide_eq_false c4
    clear c4
    by_cases c6 : t261 = 0
    · rw [if_pos c6] at H
      have c6b0 : (t261 == 0) = true := beq_iff_eq.mpr c6
      have c6b1 : (t261 != 0) = false := bne_eq_false_iff_eq.mpr c6
      clear c6
      obtain rfl := Option.some.inj H
      go_enter Tryd.func102, Tryd.ntmps102
      go_wp2_with (first | ((with_reducible refine gate_callee (f := 121) rfl ?_); refine goesL_ (some 8) rfl rfl Tryd.func121 (by kernel_rfl) rfl #[.string a0, .string a1] rfl (by (try simp only [List.map_toArray, List.map_cons, List.map_nil]); first | done | rfl | (simp only [List.length_drop, List.length_take]; rfl)) ?_; (with_reducible refine (cachepotref1_KeyCmp.calls k a0 a1 t261 _ A3.out).mono ?_); rintro e w7 ⟨rfl, hb⟩; refine ⟨_, rfl, ?_⟩; have n0_ := Aside0.mk (below_step (by repeat (first | (with_reducible first | exact HB.out | apply below_alloc | apply pw_below_drewN | apply below_drew1) | exact HB.out)) hb); clear HB; have HB := n0_; clear n0_; (try clear hb); (try clear hb2); (try clear hk); (try clear hi)))
      go_ret
      exact ⟨by first | rfl | (simp [errW_none, errW_some] <;> rfl) | (simp [*, errW_none, errW_some] <;> rfl), by repeat (first | (with_reducible first | exact HB.out | apply below_alloc | apply pw_below_drewN | apply below_drew1) | exact HB.out)⟩
    · rw [if_neg c6] at H
      have c6b0 : (t261 == 0) = false := beq_eq_false_iff_ne.mpr c6
      have c6b1 : (t261 != 0) = true := bne_iff_ne.mpr c6
      obtain rfl := Option.some.inj H
      go_enter Tryd.func102, Tryd.ntmps102
      go_wp2_with (first | ((with_reducible refine gate_callee (f := 121) rfl ?_); refine goesL_ (some 8) rfl rfl Tryd.func121 (by kernel_rfl) rfl #[.string a0, .string a1] rfl (by (try simp only [List.map_toArray, List.map_cons, List.map_nil]); first | done | rfl | (simp only [List.length_drop, List.length_take]; rfl)) ?_; (with_reducible refine (cachepotref1_KeyCmp.calls k a0 a1 t261 _ A3.out).mono ?_); rintro e w8 ⟨rfl, hb⟩; refine ⟨_, rfl, ?_⟩; have n0_ := Aside0.mk (below_step (by repeat (first | (with_reducible first | exact HB.out | apply below_alloc | apply pw_below_drewN | apply below_drew1) | exact HB.out)) hb); clear HB; have HB := n0_; clear n0_; (try clear hb); (try clear hb2); (try clear hk); (try clear hi)))
      go_ret
      exact ⟨by first | rfl | (simp [errW_none, errW_some] <;> rfl) | (simp [*, errW_none, errW_some] <;> rfl), by repeat (first | (with_reducible first | exact HB.out | apply below_alloc | apply pw_below_drewN | apply below_drew1) | exact HB.out)⟩
def cachepotref3_SameAnswers.l0 : Nat → List (S98) → List (S98) → Int → Option (Bool)
  | 0, _, _, _ => none
  | k + 1, x0, x1, x5 => if x5 < (x0.length : Int) then (if 0 ≤ x5 then (if x5 < (x1.length : Int) then (if (!((((rd_T98 x0 x5).f0).toList) == (((rd_T98 x1 x5).f0).toList)) || (!(((rd_T98 x0 x5).f1) == ((rd_T98 x1 x5).f1)) || (!((((rd_T98 x0 x5).f2).toList) == (((rd_T98 x1 x5).f2).toList)) || (!(((rd_T98 x0 x5).f3) == ((rd_T98 x1 x5).f3)))))) = true then (some false) else (cachepotref3_SameAnswers.l0 k x0 x1 (wrap64 (x5 + 1)))) else (none)) else (none)) else (some true)
def cachepotref3_SameAnswers.f (k : Nat) (l0 : List (S98)) (l1 : List (S98)) : Option (Bool) := if (l0.length : Int) = (l1.length : Int) then (cachepotref3_SameAnswers.l0 k l0 l1 0) else (some false)
set_option maxHeartbeats 8000000 in
set_option maxRecDepth 100000 in
theorem cachepotref3_SameAnswers.calls (k : Nat) (A0 : Option Addr) (c0 : Nat) (l0 : List (S98)) (A1 : Option Addr) (c1 : Nat) (l1 : List (S98)) (r : Bool) (w : World) (hr0 : Kd.C k98 w A0 l0.length l0) (hc0 : l0.length ≤ c0) (hr1 : Kd.C k98 w A1 l1.length l1) (hc1 : l1.length ≤ c1) (h : cachepotref3_SameAnswers.f k l0 l1 = some r) :
    Calls Tryd.prog 77 #[.slice A0 l0.length c0, .slice A1 l1.length c1] w fun e w' => e = .returned (.bool r) ∧ Drawn0 w w' := by
  have hu98 := Tryd.underlying98
  have HR0 := Aside0.mk hr0
  have HC0 := Aside0.mk hc0
  clear hr0 hc0
  have HR1 := Aside0.mk hr1
  have HC1 := Aside0.mk hc1
  clear hr1 hc1
  have H : (if (l0.length : Int) = (l1.length : Int) then (cachepotref3_SameAnswers.l0 k l0 l1 0) else (some false)) = some r := h
  clear h
  by_cases c3 : (l0.length : Int) = (l1.length : Int)
  · rw [if_pos c3] at H
    have c3b0 : ((l0.length : Int) == (l1.length : Int)) = true := beq_iff_eq.mpr c3
    have c3b1 : ((l0.length : Int) != (l1.length : Int)) = false := bne_eq_false_iff_eq.mpr c3
    have c3b2 : (l0.length == l1.length) = true := by first | simpa using c3 | (simp at c3 ⊢; omega)
    clear c3
    have H' := Aside0.mk H
    clear H
    go_enter Tryd.func77, Tryd.ntmps77
    go_wp2
    repeat (go_quiet (fail); try go_wp2)
    go_loopg [5] k (fun kq v5 w' => ∃ (x5_1 : Int), v5 = .int .i64 x5_1 ∧ Aside0 (cachepotref3_SameAnswers.l0 kq l0 l1 x5_1 = some r) ∧ Aside0 (kq ≤ k) ∧ Drawn0 w w')
    case atStart => exact ⟨(0), (by first | rfl | (simp; done) | (simp [*]; done)), H', ⟨Nat.le_refl _⟩, by repeat (first | exact Drawn0.refl _ | apply Drawn0.step)⟩
    case round =>
      clear H'
      try clear c1
      try clear p2
      try clear c3
      try clear c3b0
      try clear c3b1
      try clear c3b2
      obtain ⟨x5_1, rfl, HA, HK1, ⟨m1, rfl⟩⟩ := hrel
      cases gk with
      | zero => exact absurd HA.out (by simp [cachepotref3_SameAnswers.l0])
      | succ k1 =>
        have H := HA.out
        clear HA
        simp only [cachepotref3_SameAnswers.l0] at H
        by_cases c4 : x5_1 < (l0.length : Int)
        · rw [if_pos c4] at H
          have c4b0 : decide (x5_1 < (l0.length : Int)) = true := decide_eq_true c4
          clear c4
          by_cases c5 : 0 ≤ x5_1
          · rw [if_pos c5] at H
            have c5b0 : decide (0 ≤ x5_1) = true := decide_eq_true c5
            clear c5
            by_cases c6 : x5_1 < (l1.length : Int)
            · rw [if_pos c6] at H
              have c6b0 : decide (x5_1 < (l1.length : Int)) = true := decide_eq_true c6
              clear c6
              by_cases c7 : (!((((rd_T98 l0 x5_1).f0).toList) == (((rd_T98 l1 x5_1).f0).toList)) || (!(((rd_T98 l0 x5_1).f1) == ((rd_T98 l1 x5_1).f1)) || (!((((rd_T98 l0 x5_1).f2).toList) == (((rd_T98 l1 x5_1).f2).toList)) || (!(((rd_T98 l0 x5_1).f3) == ((rd_T98 l1 x5_1).f3)))))) = true
              · rw [if_pos c7] at H
                have c7b0 : (!((((rd_T98 l0 x5_1).f0).toList) == (((rd_T98 l1 x5_1).f0).toList)) || (!(((rd_T98 l0 x5_1).f1) == ((rd_T98 l1 x5_1).f1)) || (!((((rd_T98 l0 x5_1).f2).toList) == (((rd_T98 l1 x5_1).f2).toList)) || (!(((rd_T98 l0 x5_1).f3) == ((rd_T98 l1 x5_1).f3)))))) = true := c7
                clear c7
                obtain rfl := Option.some.inj H
                have p262 : 0 ≤ (x5_1 : Int) := of_decide_eq_true (by first | (with_reducible assumption) | assumption)
                have q262 : x5_1 < (l0.length : Int) := of_decide_eq_true (by first | (with_reducible assumption) | assumption)
                obtain ⟨ad262, e262, hx262_0, hx262_1, hx262_2, hx262_3⟩ := at_T98 HR0.out x5_1 p262 q262
                cases e262
                replace p262 := eq_true p262
                replace q262 := eq_true q262
                have p263 : 0 ≤ (x5_1 : Int) := of_decide_eq_true (by first | (with_reducible assumption) | assumption)
                have q263 : x5_1 < (l1.length : Int) := of_decide_eq_true (by first | (with_reducible assumption) | assumption)
                obtain ⟨ad263, e263, hx263_0, hx263_1, hx263_2, hx263_3⟩ := at_T98 HR1.out x5_1 p263 q263
                cases e263
                replace p263 := eq_true p263
                replace q263 := eq_true q263
                go_wp2
                repeat (go_quiet (fail); try go_wp2)
                go_ret
                exact ⟨by first | rfl | (simp; done) | (simp [*]; done), by repeat (first | exact Drawn0.refl _ | apply Drawn0.step)⟩
              · rw [if_neg c7] at H
                have c7b0 : (!((((rd_T98 l0 x5_1).f0).toList) == (((rd_T98 l1 x5_1).f0).toList)) || (!(((rd_T98 l0 x5_1).f1) == ((rd_T98 l1 x5_1).f1)) || (!((((rd_T98 l0 x5_1).f2).toList) == (((rd_T98 l1 x5_1).f2).toList)) || (!(((rd_T98 l0 x5_1).f3) == ((rd_T98 l1 x5_1).f3)))))) = false := by simpa using c7
                clear c7
                have H' := Aside0.mk H
                clear H
                have p262 : 0 ≤ (x5_1 : Int) := of_decide_eq_true (by first | (with_reducible assumption) | assumption)
                have q262 : x5_1 < (l0.length : Int) := of_decide_eq_true (by first | (with_reducible assumption) | assumption)
                obtain ⟨ad262, e262, hx262_0, hx262_1, hx262_2, hx262_3⟩ := at_T98 HR0.out x5_1 p262 q262
                cases e262
                replace p262 := eq_true p262
                replace q262 := eq_true q262
                have p263 : 0 ≤ (x5_1 : Int) := of_decide_eq_true (by first | (with_reducible assumption) | assumption)
                have q263 : x5_1 < (l1.length : Int) := of_decide_eq_true (by first | (with_reducible assumption) | assumption)
                obtain ⟨ad263, e263, hx263_0, hx263_1, hx263_2, hx263_3⟩ := at_T98 HR1.out x5_1 p263 q263
                cases e263
                replace p263 := eq_true p263
                replace q263 := eq_true q263
                go_wp2
                repeat (go_quiet (fail); try go_wp2)
                go_roundg k1
                case measure => have := HK1.out; omega
                case rel => exact ⟨(wrap64 (x5_1 + 1)), (by first | rfl | (simp; done) | (simp [*]; done)), H', ⟨by have := HK1.out; omega⟩, by repeat (first | exact Drawn0.refl _ | apply Drawn0.step)⟩
            · rw [if_neg c6] at H
              exact absurd H (by simp)
          · rw [if_neg c5] at H
            exact absurd H (by simp)
        · rw [if_neg c4] at H
          have c4b0 : decide (x5_1 < (l0.length : Int)) = false := decide_eq_false c4
          clear c4
          obtain rfl := Option.some.inj H
          go_wp2
          repeat (go_quiet (fail); try go_wp2)
          go_ret
          exact ⟨by first | rfl | (simp; done) | (simp [*]; done), by repeat (first | exact Drawn0.refl _ | apply Drawn0.step)⟩
  · rw [if_neg c3] at H
    have c3b0 : ((l0.length : Int) == (l1.length : Int)) = false := beq_eq_false_iff_ne.mpr c3
    have c3b1 : ((l0.length : Int) != (l1.length : Int)) = true := bne_iff_ne.mpr c3
    have c3b2 : (l0.length == l1.length) = false := by first | simpa using c3 | (simp at c3 ⊢; omega)
    obtain rfl := Option.some.inj H
    go_enter Tryd.func77, Tryd.ntmps77
    go_wp2
    repeat (go_quiet (fail); try go_wp2)
    go_ret
    exact ⟨by first | rfl | (simp; done) | (simp [*]; done), by repeat (first | exact Drawn0.refl _ | apply Drawn0.step)⟩
def ledger_Rising.l0 : Nat → List (S43) → Int → Bool → List (S43) → Int → Int → Option (Int × Bool)
  | 0, _, _, _, _, _, _ => none
  | k + 1, x0, x4, x5, x8, x9, x10 => if x10 < x9 then (if 0 ≤ x10 then (if x10 < (x8.length : Int) then (if ((rd_T43 x8 x10).f0) = 1 then (if x5 = true then (if ((rd_T43 x8 x10).f1) ≤ x4 then (some (x10, false)) else (ledger_Rising.l0 k x0 ((rd_T43 x8 x10).f1) true x8 x9 (wrap64 (x10 + 1)))) else (ledger_Rising.l0 k x0 ((rd_T43 x8 x10).f1) true x8 x9 (wrap64 (x10 + 1)))) else (ledger_Rising.l0 k x0 x4 x5 x8 x9 (wrap64 (x10 + 1)))) else (none)) else (none)) else (some ((x0.length : Int), true))
def ledger_Rising.f (k : Nat) (l0 : List (S43)) : Option (Int × Bool) := ledger_Rising.l0 k l0 0 false l0 (l0.length : Int) 0
set_option maxHeartbeats 8000000 in
set_option maxRecDepth 100000 in
theorem ledger_Rising.calls (k : Nat) (A0 : Option Addr) (c0 : Nat) (l0 : List (S43)) (r1 : Int) (r2 : Bool) (w : World) (hr0 : Kd.C k43 w A0 l0.length l0) (hc0 : l0.length ≤ c0) (h : ledger_Rising.f k l0 = some (r1, r2)) :
    Calls Tryd.prog 37 #[.slice A0 l0.length c0] w fun e w' => e = .returned (.tuple #[.int .i64 r1, .bool r2]) ∧ Below w.heap.size w w' := by
  have hu43 := Tryd.underlying43
  have HR0 := Aside0.mk hr0
  have HC0 := Aside0.mk hc0
  clear hr0 hc0
  have HB := Aside0.mk (Below.refl w.heap.size w)
  have H : (ledger_Rising.l0 k l0 0 false l0 (l0.length : Int) 0) = some (r1, r2) := h
  clear h
  have H' := Aside0.mk H
  clear H
  go_enter Tryd.func37, Tryd.ntmps37
  go_wp2
  go_loopg [4, 5, 10] k (fun kq v4 v5 v10 w' => ∃ (x4_1 : Int) (x5_1 : Bool) (x10_1 : Int), v4 = .int .u32 x4_1 ∧ v5 = .bool x5_1 ∧ v10 = .int .i64 x10_1 ∧ Aside0 (ledger_Rising.l0 kq l0 x4_1 x5_1 l0 (l0.length : Int) x10_1 = some (r1, r2)) ∧ Aside0 (kq ≤ k) ∧ Aside0 (Below w.heap.size w w'))
  case atStart => exact ⟨(0), (false), (0), (by first | rfl | (simp; done) | (simp [*]; done)), (by first | rfl | (simp; done) | (simp [*]; done)), (by first | rfl | (simp; done) | (simp [*]; done)), H', ⟨Nat.le_refl _⟩, ⟨by repeat (first | (with_reducible first | exact HB.out | apply below_alloc | apply pw_below_drewN | apply below_drew1) | exact HB.out)⟩⟩
  case round =>
    clear H'
    obtain ⟨x4_1, x5_1, x10_1, rfl, rfl, rfl, HA, HK1, HB⟩ := hrel
    cases gk with
    | zero => exact absurd HA.out (by simp [ledger_Rising.l0])
    | succ k1 =>
      have H := HA.out
      clear HA
      simp only [ledger_Rising.l0] at H
      by_cases c2 : x10_1 < (l0.length : Int)
      · rw [if_pos c2] at H
        have c2b0 : decide (x10_1 < (l0.length : Int)) = true := decide_eq_true c2
        clear c2
        by_cases c3 : 0 ≤ x10_1
        · rw [if_pos c3] at H
          have c3b0 : decide (0 ≤ x10_1) = true := decide_eq_true c3
          clear c3
          by_cases c4 : x10_1 < (l0.length : Int)
          · rw [if_pos c4] at H
            have c4b0 : decide (x10_1 < (l0.length : Int)) = true := decide_eq_true c4
            clear c4
            by_cases c5 : ((rd_T43 l0 x10_1).f0) = 1
            · rw [if_pos c5] at H
              have c5b0 : (((rd_T43 l0 x10_1).f0) == 1) = true := beq_iff_eq.mpr c5
              have c5b1 : (((rd_T43 l0 x10_1).f0) != 1) = false := bne_eq_false_iff_eq.mpr c5
              clear c5
              by_cases c6 : x5_1 = true
              · subst c6
                have H1 : (if ((rd_T43 l0 x10_1).f1) ≤ x4_1 then (some (x10_1, false)) else (ledger_Rising.l0 k1 l0 ((rd_T43 l0 x10_1).f1) true l0 (l0.length : Int) (wrap64 (x10_1 + 1)))) = some (r1, r2) := by rw [if_pos rfl] at H; exact H
                clear H
                have H := H1
                clear H1
                by_cases c7 : ((rd_T43 l0 x10_1).f1) ≤ x4_1
                · rw [if_pos c7] at H
                  have c7b0 : decide (((rd_T43 l0 x10_1).f1) ≤ x4_1) = true := decide_eq_true c7
                  clear c7
                  simp only [Option.some.injEq, Prod.mk.injEq] at H
                  obtain ⟨rfl, rfl⟩ := H
                  have p264 : 0 ≤ (x10_1 : Int) := of_decide_eq_true (by first | (with_reducible assumption) | assumption)
                  have q264 : x10_1 < (l0.length : Int) := of_decide_eq_true (by first | (with_reducible assumption) | assumption)
                  obtain ⟨ad264, A264_2, c264_2, A264_3, c264_3, A264_4, c264_4, e264, hx264_0, hx264_1, hx264_2, hx264_3, hx264_4, hl264_2, hi264_2, hl264_3, hi264_3, hl264_4, hi264_4⟩ := at_T43 HR0.out x10_1 p264 q264
                  cases e264
                  replace hx264_0 := (HB.out.cell (World.block_lt_of_cell? w _ hx264_0)).trans hx264_0
                  replace hx264_1 := (HB.out.cell (World.block_lt_of_cell? w _ hx264_1)).trans hx264_1
                  replace hx264_2 := (HB.out.cell (World.block_lt_of_cell? w _ hx264_2)).trans hx264_2
                  replace hx264_3 := (HB.out.cell (World.block_lt_of_cell? w _ hx264_3)).trans hx264_3
                  replace hx264_4 := (HB.out.cell (World.block_lt_of_cell? w _ hx264_4)).trans hx264_4
                  have HR264_2 := Aside0.mk hi264_2
                  have HC264_2 := Aside0.mk hl264_2
                  clear hi264_2 hl264_2
                  have HR264_3 := Aside0.mk hi264_3
                  have HC264_3 := Aside0.mk hl264_3
                  clear hi264_3 hl264_3
                  have HR264_4 := Aside0.mk hi264_4
                  have HC264_4 := Aside0.mk hl264_4
                  clear hi264_4 hl264_4
                  replace p264 := eq_true p264
                  replace q264 := eq_true q264
                  go_wp2_with (first | ((with_reducible refine gate_dst (N := 7) rfl ?_); refine box_event ?hg (N := 7) ?hd (cs := #[.int .i64 0, .int .u32 0, .slice none 0 0, .slice none 0 0, .slice none 0 0]) (t := 43) ?hr ?_; (case hd => rfl); (case hg => rfl); (case hr => first | (go_simp; done) | (go_simp; rfl)); intro gb265 hg w8 hbox hb; have n0_ := Aside0.mk (below_step (by repeat (first | (with_reducible first | exact HB.out | apply below_alloc | apply pw_below_drewN | apply below_drew1) | exact HB.out)) hb); have n1_ := Aside0.mk (hbox); have n2_ := Aside0.mk ((by rw [hg]; exact (below_size (by repeat (first | (with_reducible first | exact HB.out | apply below_alloc | apply pw_below_drewN | apply below_drew1) | exact HB.out))) : w.heap.size ≤ gb265)); have n3_ := Aside0.mk ((by rw [hg]; exact (below_size (by repeat (first | (with_reducible first | exact HB.out | apply below_alloc | apply pw_below_drewN | apply below_drew1) | exact HB.out))) : w.heap.size ≤ gb265)); clear HB; have HB := n0_; have BK265 := n1_; have GW265 := n2_; have GE265 := n3_; clear n0_ n1_ n2_ n3_; clear hb hbox hg; have hcz9_0 : w8.cell? ⟨gb265, 0, none⟩ = some (.int .i64 0) := (blk_cell BK265.out 0).trans rfl; have hcz9_1 : w8.cell? ⟨gb265, 1, none⟩ = some (.int .u32 0) := (blk_cell BK265.out 1).trans rfl; have hcz9_2 : w8.cell? ⟨gb265, 2, none⟩ = some (.slice none 0 0) := (blk_cell BK265.out 2).trans rfl; have hcz9_3 : w8.cell? ⟨gb265, 3, none⟩ = some (.slice none 0 0) := (blk_cell BK265.out 3).trans rfl; have hcz9_4 : w8.cell? ⟨gb265, 4, none⟩ = some (.slice none 0 0) := (blk_cell BK265.out 4).trans rfl; have hfz9_0 := blk_frozen BK265.out 0; have hfz9_1 := blk_frozen BK265.out 1; have hfz9_2 := blk_frozen BK265.out 2; have hfz9_3 := blk_frozen BK265.out 3; have hfz9_4 := blk_frozen BK265.out 4))
                  go_ret2
                  exact ⟨by first | rfl | (simp [errW_none, errW_some] <;> rfl) | (simp [*, errW_none, errW_some] <;> rfl), by repeat (first | (with_reducible first | exact HB.out | apply below_alloc | apply pw_below_drewN | apply below_drew1 | refine below_set ?_ GE265.out) | exact HB.out)⟩
                · rw [if_neg c7] at H
                  have c7b0 : decide (((rd_T43 l0 x10_1).f1) ≤ x4_1) = false := decide_eq_false c7
                  clear c7
                  have H' := Aside0.mk H
                  clear H
                  have p264 : 0 ≤ (x10_1 : Int) := of_decide_eq_true (by first | (with_reducible assumption) | assumption)
                  have q264 : x10_1 < (l0.length : Int) := of_decide_eq_true (by first | (with_reducible assumption) | assumption)
                  obtain ⟨ad264, A264_2, c264_2, A264_3, c264_3, A264_4, c264_4, e264, hx264_0, hx264_1, hx264_2, hx264_3, hx264_4, hl264_2, hi264_2, hl264_3, hi264_3, hl264_4, hi264_4⟩ := at_T43 HR0.out x10_1 p264 q264
                  cases e264
                  replace hx264_0 := (HB.out.cell (World.block_lt_of_cell? w _ hx264_0)).trans hx264_0
                  replace hx264_1 := (HB.out.cell (World.block_lt_of_cell? w _ hx264_1)).trans hx264_1
                  replace hx264_2 := (HB.out.cell (World.block_lt_of_cell? w _ hx264_2)).trans hx264_2
                  replace hx264_3 := (HB.out.cell (World.block_lt_of_cell? w _ hx264_3)).trans hx264_3
                  replace hx264_4 := (HB.out.cell (World.block_lt_of_cell? w _ hx264_4)).trans hx264_4
                  have HR264_2 := Aside0.mk hi264_2
                  have HC264_2 := Aside0.mk hl264_2
                  clear hi264_2 hl264_2
                  have HR264_3 := Aside0.mk hi264_3
                  have HC264_3 := Aside0.mk hl264_3
                  clear hi264_3 hl264_3
                  have HR264_4 := Aside0.mk hi264_4
                  have HC264_4 := Aside0.mk hl264_4
                  clear hi264_4 hl264_4
                  replace p264 := eq_true p264
                  replace q264 := eq_true q264
                  go_wp2_with (first | ((with_reducible refine gate_dst (N := 7) rfl ?_); refine box_event ?hg (N := 7) ?hd (cs := #[.int .i64 0, .int .u32 0, .slice none 0 0, .slice none 0 0, .slice none 0 0]) (t := 43) ?hr ?_; (case hd => rfl); (case hg => rfl); (case hr => first | (go_simp; done) | (go_simp; rfl)); intro gb265 hg w10 hbox hb; have n0_ := Aside0.mk (below_step (by repeat (first | (with_reducible first | exact HB.out | apply below_alloc | apply pw_below_drewN | apply below_drew1) | exact HB.out)) hb); have n1_ := Aside0.mk (hbox); have n2_ := Aside0.mk ((by rw [hg]; exact (below_size (by repeat (first | (with_reducible first | exact HB.out | apply below_alloc | apply pw_below_drewN | apply below_drew1) | exact HB.out))) : w.heap.size ≤ gb265)); have n3_ := Aside0.mk ((by rw [hg]; exact (below_size (by repeat (first | (with_reducible first | exact HB.out | apply below_alloc | apply pw_below_drewN | apply below_drew1) | exact HB.out))) : w.heap.size ≤ gb265)); clear HB; have HB := n0_; have BK265 := n1_; have GW265 := n2_; have GE265 := n3_; clear n0_ n1_ n2_ n3_; clear hb hbox hg; have hcz11_0 : w10.cell? ⟨gb265, 0, none⟩ = some (.int .i64 0) := (blk_cell BK265.out 0).trans rfl; have hcz11_1 : w10.cell? ⟨gb265, 1, none⟩ = some (.int .u32 0) := (blk_cell BK265.out 1).trans rfl; have hcz11_2 : w10.cell? ⟨gb265, 2, none⟩ = some (.slice none 0 0) := (blk_cell BK265.out 2).trans rfl; have hcz11_3 : w10.cell? ⟨gb265, 3, none⟩ = some (.slice none 0 0) := (blk_cell BK265.out 3).trans rfl; have hcz11_4 : w10.cell? ⟨gb265, 4, none⟩ = some (.slice none 0 0) := (blk_cell BK265.out 4).trans rfl; have hfz11_0 := blk_frozen BK265.out 0; have hfz11_1 := blk_frozen BK265.out 1; have hfz11_2 := blk_frozen BK265.out 2; have hfz11_3 := blk_frozen BK265.out 3; have hfz11_4 := blk_frozen BK265.out 4))
                  go_roundg k1
                  case measure => have := HK1.out; omega
                  case rel => exact ⟨((rd_T43 l0 x10_1).f1), (true), (wrap64 (x10_1 + 1)), (by first | rfl | (simp; done) | (simp [*]; done)), (by first | rfl | (simp; done) | (simp [*]; done)), (by first | rfl | (simp; done) | (simp [*]; done)), H', ⟨by have := HK1.out; omega⟩, ⟨by repeat (first | (with_reducible first | exact HB.out | apply below_alloc | apply pw_below_drewN | apply below_drew1 | refine below_set ?_ GE265.out) | exact HB.out)⟩⟩
              · replace c6 := Bool.eq_false_iff.mpr c6
                subst c6
                have H1 : (ledger_Rising.l0 k1 l0 ((rd_T43 l0 x10_1).f1) true l0 (l0.length : Int) (wrap64 (x10_1 + 1))) = some (r1, r2) := by rw [if_neg (show ¬ (false = true) by decide)] at H; exact H
                clear H
                have H := H1
                clear H1
                have H' := Aside0.mk H
                clear H
                have p264 : 0 ≤ (x10_1 : Int) := of_decide_eq_true (by first | (with_reducible assumption) | assumption)
                have q264 : x10_1 < (l0.length : Int) := of_decide_eq_true (by first | (with_reducible assumption) | assumption)
                obtain ⟨ad264, A264_2, c264_2, A264_3, c264_3, A264_4, c264_4, e264, hx264_0, hx264_1, hx264_2, hx264_3, hx264_4, hl264_2, hi264_2, hl264_3, hi264_3, hl264_4, hi264_4⟩ := at_T43 HR0.out x10_1 p264 q264
                cases e264
                replace hx264_0 := (HB.out.cell (World.block_lt_of_cell? w _ hx264_0)).trans hx264_0
                replace hx264_1 := (HB.out.cell (World.block_lt_of_cell? w _ hx264_1)).trans hx264_1
                replace hx264_2 := (HB.out.cell (World.block_lt_of_cell? w _ hx264_2)).trans hx264_2
                replace hx264_3 := (HB.out.cell (World.block_lt_of_cell? w _ hx264_3)).trans hx264_3
                replace hx264_4 := (HB.out.cell (World.block_lt_of_cell? w _ hx264_4)).trans hx264_4
                have HR264_2 := Aside0.mk hi264_2
                have HC264_2 := Aside0.mk hl264_2
                clear hi264_2 hl264_2
                have HR264_3 := Aside0.mk hi264_3
                have HC264_3 := Aside0.mk hl264_3
                clear hi264_3 hl264_3
                have HR264_4 := Aside0.mk hi264_4
                have HC264_4 := Aside0.mk hl264_4
                clear hi264_4 hl264_4
                replace p264 := eq_true p264
                replace q264 := eq_true q264
                go_wp2_with (first | ((with_reducible refine gate_dst (N := 7) rfl ?_); refine box_event ?hg (N := 7) ?hd (cs := #[.int .i64 0, .int .u32 0, .slice none 0 0, .slice none 0 0, .slice none 0 0]) (t := 43) ?hr ?_; (case hd => rfl); (case hg => rfl); (case hr => first | (go_simp; done) | (go_simp; rfl)); intro gb265 hg w12 hbox hb; have n0_ := Aside0.mk (below_step (by repeat (first | (with_reducible first | exact HB.out | apply below_alloc | apply pw_below_drewN | apply below_drew1) | exact HB.out)) hb); have n1_ := Aside0.mk (hbox); have n2_ := Aside0.mk ((by rw [hg]; exact (below_size (by repeat (first | (with_reducible first | exact HB.out | apply below_alloc | apply pw_below_drewN | apply below_drew1) | exact HB.out))) : w.heap.size ≤ gb265)); have n3_ := Aside0.mk ((by rw [hg]; exact (below_size (by repeat (first | (with_reducible first | exact HB.out | apply below_alloc | apply pw_below_drewN | apply below_drew1) | exact HB.out))) : w.heap.size ≤ gb265)); clear HB; have HB := n0_; have BK265 := n1_; have GW265 := n2_; have GE265 := n3_; clear n0_ n1_ n2_ n3_; clear hb hbox hg; have hcz13_0 : w12.cell? ⟨gb265, 0, none⟩ = some (.int .i64 0) := (blk_cell BK265.out 0).trans rfl; have hcz13_1 : w12.cell? ⟨gb265, 1, none⟩ = some (.int .u32 0) := (blk_cell BK265.out 1).trans rfl; have hcz13_2 : w12.cell? ⟨gb265, 2, none⟩ = some (.slice none 0 0) := (blk_cell BK265.out 2).trans rfl; have hcz13_3 : w12.cell? ⟨gb265, 3, none⟩ = some (.slice none 0 0) := (blk_cell BK265.out 3).trans rfl; have hcz13_4 : w12.cell? ⟨gb265, 4, none⟩ = some (.slice none 0 0) := (blk_cell BK265.out 4).trans rfl; have hfz13_0 := blk_frozen BK265.out 0; have hfz13_1 := blk_frozen BK265.out 1; have hfz13_2 := blk_frozen BK265.out 2; have hfz13_3 := blk_frozen BK265.out 3; have hfz13_4 := blk_frozen BK265.out 4))
                go_roundg k1
                case measure => have := HK1.out; omega
                case rel => exact ⟨((rd_T43 l0 x10_1).f1), (true), (wrap64 (x10_1 + 1)), (by first | rfl | (simp; done) | (simp [*]; done)), (by first | rfl | (simp; done) | (simp [*]; done)), (by first | rfl | (simp; done) | (simp [*]; done)), H', ⟨by have := HK1.out; omega⟩, ⟨by repeat (first | (with_reducible first | exact HB.out | apply below_alloc | apply pw_below_drewN | apply below_drew1 | refine below_set ?_ GE265.out) | exact HB.out)⟩⟩
            · rw [if_neg c5] at H
              have c5b0 : (((rd_T43 l0 x10_1).f0) == 1) = false := beq_eq_false_iff_ne.mpr c5
              have c5b1 : (((rd_T43 l0 x10_1).f0) != 1) = true := bne_iff_ne.mpr c5
              have H' := Aside0.mk H
              clear H
              have p264 : 0 ≤ (x10_1 : Int) := of_decide_eq_true (by first | (with_reducible assumption) | assumption)
              have q264 : x10_1 < (l0.length : Int) := of_decide_eq_true (by first | (with_reducible assumption) | assumption)
              obtain ⟨ad264, A264_2, c264_2, A264_3, c264_3, A264_4, c264_4, e264, hx264_0, hx264_1, hx264_2, hx264_3, hx264_4, hl264_2, hi264_2, hl264_3, hi264_3, hl264_4, hi264_4⟩ := at_T43 HR0.out x10_1 p264 q264
              cases e264
              replace hx264_0 := (HB.out.cell (World.block_lt_of_cell? w _ hx264_0)).trans hx264_0
              replace hx264_1 := (HB.out.cell (World.block_lt_of_cell? w _ hx264_1)).trans hx264_1
              replace hx264_2 := (HB.out.cell (World.block_lt_of_cell? w _ hx264_2)).trans hx264_2
              replace hx264_3 := (HB.out.cell (World.block_lt_of_cell? w _ hx264_3)).trans hx264_3
              replace hx264_4 := (HB.out.cell (World.block_lt_of_cell? w _ hx264_4)).trans hx264_4
              have HR264_2 := Aside0.mk hi264_2
              have HC264_2 := Aside0.mk hl264_2
              clear hi264_2 hl264_2
              have HR264_3 := Aside0.mk hi264_3
              have HC264_3 := Aside0.mk hl264_3
              clear hi264_3 hl264_3
              have HR264_4 := Aside0.mk hi264_4
              have HC264_4 := Aside0.mk hl264_4
              clear hi264_4 hl264_4
              replace p264 := eq_true p264
              replace q264 := eq_true q264
              go_wp2_with (first | ((with_reducible refine gate_dst (N := 7) rfl ?_); refine box_event ?hg (N := 7) ?hd (cs := #[.int .i64 0, .int .u32 0, .slice none 0 0, .slice none 0 0, .slice none 0 0]) (t := 43) ?hr ?_; (case hd => rfl); (case hg => rfl); (case hr => first | (go_simp; done) | (go_simp; rfl)); intro gb265 hg w14 hbox hb; have n0_ := Aside0.mk (below_step (by repeat (first | (with_reducible first | exact HB.out | apply below_alloc | apply pw_below_drewN | apply below_drew1) | exact HB.out)) hb); have n1_ := Aside0.mk (hbox); have n2_ := Aside0.mk ((by rw [hg]; exact (below_size (by repeat (first | (with_reducible first | exact HB.out | apply below_alloc | apply pw_below_drewN | apply below_drew1) | exact HB.out))) : w.heap.size ≤ gb265)); have n3_ := Aside0.mk ((by rw [hg]; exact (below_size (by repeat (first | (with_reducible first | exact HB.out | apply below_alloc | apply pw_below_drewN | apply below_drew1) | exact HB.out))) : w.heap.size ≤ gb265)); clear HB; have HB := n0_; have BK265 := n1_; have GW265 := n2_; have GE265 := n3_; clear n0_ n1_ n2_ n3_; clear hb hbox hg; have hcz15_0 : w14.cell? ⟨gb265, 0, none⟩ = some (.int .i64 0) := (blk_cell BK265.out 0).trans rfl; have hcz15_1 : w14.cell? ⟨gb265, 1, none⟩ = some (.int .u32 0) := (blk_cell BK265.out 1).trans rfl; have hcz15_2 : w14.cell? ⟨gb265, 2, none⟩ = some (.slice none 0 0) := (blk_cell BK265.out 2).trans rfl; have hcz15_3 : w14.cell? ⟨gb265, 3, none⟩ = some (.slice none 0 0) := (blk_cell BK265.out 3).trans rfl; have hcz15_4 : w14.cell? ⟨gb265, 4, none⟩ = some (.slice none 0 0) := (blk_cell BK265.out 4).trans rfl; have hfz15_0 := blk_frozen BK265.out 0; have hfz15_1 := blk_frozen BK265.out 1; have hfz15_2 := blk_frozen BK265.out 2; have hfz15_3 := blk_frozen BK265.out 3; have hfz15_4 := blk_frozen BK265.out 4))
              go_roundg k1
              case measure => have := HK1.out; omega
              case rel => exact ⟨(x4_1), (x5_1), (wrap64 (x10_1 + 1)), (by first | rfl | (simp; done) | (simp [*]; done)), (by first | rfl | (simp; done) | (simp [*]; done)), (by first | rfl | (simp; done) | (simp [*]; done)), H', ⟨by have := HK1.out; omega⟩, ⟨by repeat (first | (with_reducible first | exact HB.out | apply below_alloc | apply pw_below_drewN | apply below_drew1 | refine below_set ?_ GE265.out) | exact HB.out)⟩⟩
          · rw [if_neg c4] at H
            exact absurd H (by simp)
        · rw [if_neg c3] at H
          exact absurd H (by simp)
      · rw [if_neg c2] at H
        have c2b0 : decide (x10_1 < (l0.length : Int)) = false := decide_eq_false c2
        clear c2
        simp only [Option.some.injEq, Prod.mk.injEq] at H
        obtain ⟨rfl, rfl⟩ := H
        go_wp2
        go_ret2
        exact ⟨by first | rfl | (simp [errW_none, errW_some] <;> rfl) | (simp [*, errW_none, errW_some] <;> rfl), by repeat (first | (with_reducible first | exact HB.out | apply below_alloc | apply pw_below_drewN | apply below_drew1) | exact HB.out)⟩
end Go.Proofs.YtfaelejeihmgcaaDoor.Lgx
end

section
namespace Go.Proofs.YtfaelejeihmgcaaDoor.Wd
/-- how many bytes the rune at a place has -/
def width (s : ByteArray) (i : Nat) : Nat := (Utf8.decode s i).2
def hexD (n : Nat) : UInt8 := if n < 10 then (48 + n).toUInt8 else (87 + n).toUInt8
theorem width_pos (s : ByteArray) (i : Nat) : 1 ≤ width s i := by
  unfold width
  rw [Lib.decode_at]
  unfold Lib.decodeN
  repeat' split
  all_goals simp
theorem width_le (s : ByteArray) (i : Nat) (h : i < s.size) : i + width s i ≤ s.size := by
  unfold width
  rw [Lib.decode_at]
  unfold Lib.decodeN
  repeat' split
  all_goals simp
  all_goals omega
end Go.Proofs.YtfaelejeihmgcaaDoor.Wd
end

section
namespace Go.Proofs.YtfaelejeihmgcaaDoor.Lgx.Rn
open Go.RowKit Go.Proofs.YtfaelejeihmgcaaDoorW.PrintWords Go.Proofs.YtfaelejeihmgcaaDoorW.PrintLast
theorem get_lt (t : ByteArray) (i : Nat) (h : i < t.size) : t.get! i = t[i] := by
  cases t with
  | mk d => exact getElem!_pos d i h
theorem get_ge (t : ByteArray) (i : Nat) (h : ¬ i < t.size) : t.get! i = default := by
  cases t with
  | mk d => exact getElem!_neg d i h
theorem bt_get (t : ByteArray) (j : Int) : bt t j = ((t.get! j.toNat).toNat : Int) := by
  unfold bt
  split
  · rename_i h
    rw [get_lt t _ h]
  · rename_i h
    rw [get_ge t _ h]
    rfl
set_option maxRecDepth 100000 in
theorem and31 : ∀ x : Fin 256, Go.bits .and .u8 ((x.val : Nat) : Int) 31 = ((x.val % 32 : Nat) : Int) := by decide
set_option maxRecDepth 100000 in
theorem and15 : ∀ x : Fin 256, Go.bits .and .u8 ((x.val : Nat) : Int) 15 = ((x.val % 16 : Nat) : Int) := by decide
set_option maxRecDepth 100000 in
theorem and7 : ∀ x : Fin 256, Go.bits .and .u8 ((x.val : Nat) : Int) 7 = ((x.val % 8 : Nat) : Int) := by decide
set_option maxRecDepth 100000 in
theorem and63 : ∀ x : Fin 256, Go.bits .and .u8 ((x.val : Nat) : Int) 63 = ((x.val % 64 : Nat) : Int) := by decide
theorem follows_f (s : ByteArray) (i : Nat) (lo hi : Int) : cachepotref1_follows.f s (i : Int) lo hi = some (decide (i < s.size ∧ lo ≤ ((s.get! i).toNat : Int) ∧ ((s.get! i).toNat : Int) ≤ hi)) := by
  unfold cachepotref1_follows.f
  have e : bt s (i : Int) = ((s.get! i).toNat : Int) := by rw [bt_get]; rfl
  rw [e]
  by_cases h1 : i < s.size
  · rw [if_pos (by omega), if_pos (by omega)]
    by_cases h2 : ((s.get! i).toNat : Int) ≥ lo
    · rw [if_pos h2]
      congr 1
      rw [decide_eq_decide]
      exact ⟨fun h => ⟨h1, h2, h⟩, fun h => h.2.2⟩
    · rw [if_neg h2]
      congr 1
      rw [eq_comm, decide_eq_false_iff_not]
      exact fun h => h2 h.2.1
  · rw [if_neg (by omega)]
    congr 1
    rw [eq_comm, decide_eq_false_iff_not]
    exact fun h => h1 h.1
theorem w64 (x : Int) (h0 : -9223372036854775808 ≤ x) (h1 : x ≤ 9223372036854775807) : wrap64 x = x := by unfold wrap64; omega
/-- the shape of the reference's Rune, in numbers: n bytes are left, b0 .. b3 stand there, L and H bound the second -/
def refN (n b0 b1 b2 b3 L H : Nat) : Nat × Nat :=
  if b0 < 128 then (b0, 1)
  else if (194 ≤ b0 ∧ b0 ≤ 223) ∧ (1 < n ∧ 128 ≤ b1 ∧ b1 ≤ 191) then (b0 % 32 * 64 + b1 % 64, 2)
  else if (224 ≤ b0 ∧ b0 ≤ 239) ∧ (1 < n ∧ L ≤ b1 ∧ b1 ≤ H) ∧ (2 < n ∧ 128 ≤ b2 ∧ b2 ≤ 191) then (b0 % 16 * 4096 + b1 % 64 * 64 + b2 % 64, 3)
  else if (240 ≤ b0 ∧ b0 ≤ 244) ∧ (1 < n ∧ L ≤ b1 ∧ b1 ≤ H) ∧ (2 < n ∧ 128 ≤ b2 ∧ b2 ≤ 191) ∧ (3 < n ∧ 128 ≤ b3 ∧ b3 ≤ 191) then (b0 % 8 * 262144 + b1 % 64 * 4096 + b2 % 64 * 64 + b3 % 64, 4)
  else (65533, 1)
def LowOk (b0 L : Nat) : Prop := (b0 = 224 ∧ L = 160) ∨ (b0 = 240 ∧ L = 144) ∨ (b0 ≠ 224 ∧ b0 ≠ 240 ∧ L = 128)
def HighOk (b0 H : Nat) : Prop := (b0 = 237 ∧ H = 159) ∨ (b0 = 244 ∧ H = 143) ∨ (b0 ≠ 237 ∧ b0 ≠ 244 ∧ H = 191)
set_option maxHeartbeats 4000000 in
set_option maxRecDepth 100000 in
theorem refN_eq (n b0 b1 b2 b3 L H : Nat) (h0 : b0 < 256) (h1 : b1 < 256) (h2 : b2 < 256) (h3 : b3 < 256) (hL : LowOk b0 L) (hH : HighOk b0 H) : refN n b0 b1 b2 b3 L H = Lib.decodeN n b0 b1 b2 b3 := by
  unfold refN Lib.decodeN
  unfold LowOk at hL
  unfold HighOk at hH
  by_cases c0 : b0 < 128
  · rw [if_pos c0, if_pos c0]
  rw [if_neg c0, if_neg c0]
  by_cases c1 : (194 ≤ b0 ∧ b0 ≤ 223) ∧ (1 < n ∧ 128 ≤ b1 ∧ b1 ≤ 191)
  · rw [if_pos c1, if_pos (by omega), if_pos (by omega)]
  rw [if_neg c1]
  by_cases d1 : b0 / 32 = 6 ∧ (1 < n ∧ b1 / 64 = 2)
  · rw [if_pos d1, if_neg (by omega), if_neg (by omega), if_neg (by omega)]
  rw [if_neg d1]
  by_cases d2 : b0 / 16 = 14 ∧ (1 < n ∧ b1 / 64 = 2) ∧ (2 < n ∧ b2 / 64 = 2)
  · rw [if_pos d2]
    by_cases c2 : (224 ≤ b0 ∧ b0 ≤ 239) ∧ (1 < n ∧ L ≤ b1 ∧ b1 ≤ H) ∧ (2 < n ∧ 128 ≤ b2 ∧ b2 ≤ 191)
    · rw [if_pos c2, if_pos (by omega)]
    · rw [if_neg c2, if_neg (by omega), if_neg (by omega)]
  rw [if_neg d2, if_neg (by omega)]
  by_cases d3 : b0 / 8 = 30 ∧ (1 < n ∧ b1 / 64 = 2) ∧ (2 < n ∧ b2 / 64 = 2) ∧ (3 < n ∧ b3 / 64 = 2)
  · rw [if_pos d3]
    by_cases c3 : (240 ≤ b0 ∧ b0 ≤ 244) ∧ (1 < n ∧ L ≤ b1 ∧ b1 ≤ H) ∧ (2 < n ∧ 128 ≤ b2 ∧ b2 ≤ 191) ∧ (3 < n ∧ 128 ≤ b3 ∧ b3 ≤ 191)
    · rw [if_pos c3, if_pos (by omega)]
    · rw [if_neg c3, if_neg (by omega)]
  rw [if_neg d3, if_neg (by omega)]
theorem Rune_j0 (k : Nat) (s : ByteArray) (x : Int) (b0 : Nat) : ∃ L H : Nat, LowOk b0 L ∧ HighOk b0 H ∧ (224 ≤ b0 → cachepotref1_Rune.j0 (k + 1) s x (b0 : Int) = cachepotref1_Rune.j1 k s x (b0 : Int) (L : Int) (H : Int)) ∧ (b0 < 224 → cachepotref1_Rune.j0 (k + 1) s x (b0 : Int) = cachepotref1_Rune.j1 k s x (b0 : Int) 128 191) := by
  rw [cachepotref1_Rune.j0]
  by_cases x1 : b0 = 224
  · subst x1; exact ⟨160, 191, by unfold LowOk; omega, by unfold HighOk; omega, fun _ => rfl, fun h => by omega⟩
  by_cases x2 : b0 = 237
  · subst x2; exact ⟨128, 159, by unfold LowOk; omega, by unfold HighOk; omega, fun _ => rfl, fun h => by omega⟩
  by_cases x3 : b0 = 240
  · subst x3; exact ⟨144, 191, by unfold LowOk; omega, by unfold HighOk; omega, fun _ => rfl, fun h => by omega⟩
  by_cases x4 : b0 = 244
  · subst x4; exact ⟨128, 143, by unfold LowOk; omega, by unfold HighOk; omega, fun _ => rfl, fun h => by omega⟩
  rw [if_neg (by omega), if_neg (by omega), if_neg (by omega), if_neg (by omega)]
  exact ⟨128, 191, by unfold LowOk; omega, by unfold HighOk; omega, fun _ => rfl, fun _ => rfl⟩
def refY (n b0 b1 b2 b3 L H y32 y16 y8 y1 y2 y3 : Nat) : Nat × Nat :=
  if b0 < 128 then (b0, 1)
  else if (194 ≤ b0 ∧ b0 ≤ 223) ∧ (1 < n ∧ 128 ≤ b1 ∧ b1 ≤ 191) then (y32 * 64 + y1, 2)
  else if (224 ≤ b0 ∧ b0 ≤ 239) ∧ (1 < n ∧ L ≤ b1 ∧ b1 ≤ H) ∧ (2 < n ∧ 128 ≤ b2 ∧ b2 ≤ 191) then (y16 * 4096 + y1 * 64 + y2, 3)
  else if (240 ≤ b0 ∧ b0 ≤ 244) ∧ (1 < n ∧ L ≤ b1 ∧ b1 ≤ H) ∧ (2 < n ∧ 128 ≤ b2 ∧ b2 ≤ 191) ∧ (3 < n ∧ 128 ≤ b3 ∧ b3 ≤ 191) then (y8 * 262144 + y1 * 4096 + y2 * 64 + y3, 4)
  else (65533, 1)
set_option maxHeartbeats 4000000 in
set_option maxRecDepth 100000 in
theorem Rune_core (k : Nat) (s : ByteArray) (i : Nat) (hi : i < s.size) (hs : s.size ≤ 1099511627776) (b0 b1 b2 b3 L H y32 y16 y8 y1 y2 y3 : Nat)
    (e0 : Aside0 (bt s (i : Int) = (b0 : Int))) (e1 : Aside0 (bt s ((i + 1 : Nat) : Int) = (b1 : Int))) (e2 : Aside0 (bt s ((i + 2 : Nat) : Int) = (b2 : Int))) (e3 : Aside0 (bt s ((i + 3 : Nat) : Int) = (b3 : Int)))
    (f1 : ∀ lo hi : Int, cachepotref1_follows.f s ((i + 1 : Nat) : Int) lo hi = some (decide (i + 1 < s.size ∧ lo ≤ (b1 : Int) ∧ (b1 : Int) ≤ hi)))
    (f2 : ∀ lo hi : Int, cachepotref1_follows.f s ((i + 2 : Nat) : Int) lo hi = some (decide (i + 2 < s.size ∧ lo ≤ (b2 : Int) ∧ (b2 : Int) ≤ hi)))
    (f3 : ∀ lo hi : Int, cachepotref1_follows.f s ((i + 3 : Nat) : Int) lo hi = some (decide (i + 3 < s.size ∧ lo ≤ (b3 : Int) ∧ (b3 : Int) ≤ hi)))
    (hj0 : Aside0 (224 ≤ b0 → cachepotref1_Rune.j0 (k + 3) s (i : Int) (b0 : Int) = cachepotref1_Rune.j1 (k + 2) s (i : Int) (b0 : Int) (L : Int) (H : Int)))
    (hj0' : Aside0 (b0 < 224 → cachepotref1_Rune.j0 (k + 3) s (i : Int) (b0 : Int) = cachepotref1_Rune.j1 (k + 2) s (i : Int) (b0 : Int) 128 191))
    (a31 : Aside0 (Go.bits .and .u8 (b0 : Int) 31 = (y32 : Int))) (a15 : Aside0 (Go.bits .and .u8 (b0 : Int) 15 = (y16 : Int))) (a7 : Aside0 (Go.bits .and .u8 (b0 : Int) 7 = (y8 : Int)))
    (m1 : Aside0 (Go.bits .and .u8 (b1 : Int) 63 = (y1 : Int))) (m2 : Aside0 (Go.bits .and .u8 (b2 : Int) 63 = (y2 : Int))) (m3 : Aside0 (Go.bits .and .u8 (b3 : Int) 63 = (y3 : Int)))
    (h0 : b0 < 256) (q0 : y32 < 32) (q1 : y16 < 16) (q2 : y8 < 8) (q3 : y1 < 64) (q4 : y2 < 64) (q5 : y3 < 64) :
    cachepotref1_Rune.f (k + 3) s (i : Int) = some (((refY (s.size - i) b0 b1 b2 b3 L H y32 y16 y8 y1 y2 y3).1 : Int), ((refY (s.size - i) b0 b1 b2 b3 L H y32 y16 y8 y1 y2 y3).2 : Int)) := by
  have w1 : Aside0 (wrap64 ((i : Int) + 1) = ((i + 1 : Nat) : Int)) := ⟨by
    have e := w64 ((i : Int) + 1) (by omega) (by omega)
    rw [e]
    rfl⟩
  have w2 : Aside0 (wrap64 ((i : Int) + 2) = ((i + 2 : Nat) : Int)) := ⟨by
    have e := w64 ((i : Int) + 2) (by omega) (by omega)
    rw [e]
    rfl⟩
  have w3 : Aside0 (wrap64 ((i : Int) + 3) = ((i + 3 : Nat) : Int)) := ⟨by
    have e := w64 ((i : Int) + 3) (by omega) (by omega)
    rw [e]
    rfl⟩
  unfold cachepotref1_Rune.f
  rw [if_pos (by omega), if_pos (by omega), e0.out]
  by_cases c0 : b0 < 128
  · rw [if_pos (by omega), w64 (b0 : Int) (by omega) (by omega), refY, if_pos c0]
    rfl
  rw [if_neg (by omega)]
  -- a lead byte of three or four, or none
  have hno : ∀ x l h : Int, b0 < 240 → cachepotref1_Rune.j2 (k + 1) s x (b0 : Int) l h false = some (65533, 1) := by
    intro x l h hb
    rw [cachepotref1_Rune.j2, if_neg (by simp), if_neg (by omega)]
  have hj : ¬ ((194 ≤ b0 ∧ b0 ≤ 223) ∧ (1 < s.size - i ∧ 128 ≤ b1 ∧ b1 ≤ 191)) → cachepotref1_Rune.j0 (k + 3) s (i : Int) (b0 : Int) = some (((refY (s.size - i) b0 b1 b2 b3 L H y32 y16 y8 y1 y2 y3).1 : Int), ((refY (s.size - i) b0 b1 b2 b3 L H y32 y16 y8 y1 y2 y3).2 : Int)) := by
    intro c1
    rw [refY, if_neg c0, if_neg c1]
    by_cases x0 : b0 < 224
    · rw [hj0'.out x0, cachepotref1_Rune.j1, if_neg (by omega), hno _ _ _ (by omega), if_neg (by omega), if_neg (by omega)]
      rfl
    rw [hj0.out (by omega), cachepotref1_Rune.j1, if_pos (by omega)]
    by_cases x1 : b0 ≤ 239
    · rw [if_pos (by omega), w1.out, f1, w2.out]
      simp only [Option.bind_some, decide_eq_true_eq]
      by_cases z1 : i + 1 < s.size ∧ ((L : Int) ≤ (b1 : Int) ∧ (b1 : Int) ≤ (H : Int))
      · rw [if_pos z1, f2]
        simp only [Option.bind_some]
        by_cases z2 : i + 2 < s.size ∧ ((128 : Int) ≤ (b2 : Int) ∧ (b2 : Int) ≤ 191)
        · rw [decide_eq_true z2, cachepotref1_Rune.j2, if_pos rfl, w1.out, w2.out, if_pos (by omega), if_pos (by omega), if_pos (by omega), if_pos (by omega), e1.out, e2.out, a15.out, m1.out, m2.out, if_pos (by omega)]
          simp (disch := omega) only [w64]
          simp only [Option.some.injEq, Prod.mk.injEq]
          omega
        · rw [decide_eq_false z2, hno _ _ _ (by omega), if_neg (by omega), if_neg (by omega)]
          rfl
      · rw [if_neg z1, hno _ _ _ (by omega), if_neg (by omega), if_neg (by omega)]
        rfl
    · rw [if_neg (by omega), cachepotref1_Rune.j2, if_neg (by simp), if_pos (by omega), if_neg (show ¬ ((224 ≤ b0 ∧ b0 ≤ 239) ∧ _) from fun h => x1 h.1.2)]
      by_cases x2 : b0 ≤ 244
      · rw [if_pos (by omega), w1.out, f1]
        simp only [Option.bind_some, decide_eq_true_eq]
        by_cases z1 : i + 1 < s.size ∧ ((L : Int) ≤ (b1 : Int) ∧ (b1 : Int) ≤ (H : Int))
        · rw [if_pos z1, w2.out, f2]
          simp only [Option.bind_some, decide_eq_true_eq]
          by_cases z2 : i + 2 < s.size ∧ ((128 : Int) ≤ (b2 : Int) ∧ (b2 : Int) ≤ 191)
          · rw [if_pos z2, w3.out, f3]
            simp only [Option.bind_some, decide_eq_true_eq]
            by_cases z3 : i + 3 < s.size ∧ ((128 : Int) ≤ (b3 : Int) ∧ (b3 : Int) ≤ 191)
            · rw [if_pos z3, if_pos (by omega), if_pos (by omega), if_pos (by omega), if_pos (by omega), if_pos (by omega), if_pos (by omega), e1.out, e2.out, e3.out, a7.out, m1.out, m2.out, m3.out, if_pos (by omega)]
              simp (disch := omega) only [w64]
              simp only [Option.some.injEq, Prod.mk.injEq]
              omega
            · rw [if_neg z3, if_neg (by omega)]; rfl
          · rw [if_neg z2, if_neg (by omega)]; rfl
        · rw [if_neg z1, if_neg (by omega)]; rfl
      · rw [if_neg (by omega), if_neg (by omega)]; rfl
  by_cases c1 : (194 ≤ b0 ∧ b0 ≤ 223) ∧ (1 < s.size - i ∧ 128 ≤ b1 ∧ b1 ≤ 191)
  · rw [if_pos (by omega), if_pos (by omega), w1.out, f1]
    simp only [Option.bind_some, decide_eq_true_eq]
    rw [if_pos (by omega), if_pos (by omega), if_pos (by omega), e1.out, a31.out, m1.out, refY, if_neg c0, if_pos c1]
    simp (disch := omega) only [w64]
    simp only [Option.some.injEq, Prod.mk.injEq]
    omega
  · have hj' := hj c1
    by_cases x1 : 194 ≤ b0
    · rw [if_pos (by omega)]
      by_cases x2 : b0 ≤ 223
      · rw [if_pos (by omega), w1.out, f1]
        simp only [Option.bind_some, decide_eq_true_eq]
        rw [if_neg (by omega)]
        exact hj'
      · rw [if_neg (by omega)]; exact hj'
    · rw [if_neg (by omega)]; exact hj'
theorem Rune_f (k : Nat) (s : ByteArray) (i : Nat) (hi : i < s.size) (hs : s.size ≤ 1099511627776) :
    cachepotref1_Rune.f (k + 3) s (i : Int) = some (((Utf8.decode s i).1 : Int), ((Utf8.decode s i).2 : Int)) := by
  obtain ⟨L, H, hL, hH, hj0, hj0'⟩ := Rune_j0 (k + 2) s (i : Int) (s.get! i).toNat
  rw [Lib.decode_at, ← refN_eq _ _ _ _ _ L H (s.get! i).toNat_lt (s.get! (i + 1)).toNat_lt (s.get! (i + 2)).toNat_lt (s.get! (i + 3)).toNat_lt hL hH]
  exact Rune_core k s i hi hs _ _ _ _ L H _ _ _ _ _ _ ⟨by rw [bt_get]; rfl⟩ ⟨by rw [bt_get]; rfl⟩ ⟨by rw [bt_get]; rfl⟩ ⟨by rw [bt_get]; rfl⟩
    (follows_f s (i + 1)) (follows_f s (i + 2)) (follows_f s (i + 3)) ⟨hj0⟩ ⟨hj0'⟩ ⟨and31 ⟨_, (s.get! i).toNat_lt⟩⟩ ⟨and15 ⟨_, (s.get! i).toNat_lt⟩⟩ ⟨and7 ⟨_, (s.get! i).toNat_lt⟩⟩
    ⟨and63 ⟨_, (s.get! (i + 1)).toNat_lt⟩⟩ ⟨and63 ⟨_, (s.get! (i + 2)).toNat_lt⟩⟩ ⟨and63 ⟨_, (s.get! (i + 3)).toNat_lt⟩⟩ (s.get! i).toNat_lt
    (Nat.mod_lt _ (by decide)) (Nat.mod_lt _ (by decide)) (Nat.mod_lt _ (by decide)) (Nat.mod_lt _ (by decide)) (Nat.mod_lt _ (by decide)) (Nat.mod_lt _ (by decide))
theorem runes_l0 (s : ByteArray) (hs : s.size ≤ 1099511627776) : ∀ (d k i : Nat) (x y : List Int), s.size - i = d → i ≤ s.size → d + 3 < k → x.length ≤ i → y.length ≤ i → ∃ r, cachepotref1_Runes.l0 k s x y (i : Int) = some r ∧ r.1.length ≤ s.size := by
  intro d
  induction d using Nat.strongRecOn with
  | ind d ih =>
    intro k i x y hd hi hk hx hy
    obtain ⟨k, rfl⟩ : ∃ m, k = m + 3 + 1 := ⟨k - 4, by omega⟩
    simp only [cachepotref1_Runes.l0]
    by_cases h : i < s.size
    · have hp : 0 < (Utf8.decode s i).2 ∧ i + (Utf8.decode s i).2 ≤ s.size := ⟨Wd.width_pos s i, Wd.width_le s i h⟩
      rw [if_pos (by omega), Rune_f k s i h hs]
      simp only [Option.bind_some]
      rw [if_pos (by omega), if_pos (by omega), w64 _ (by omega) (by omega)]
      have e : (i : Int) + ((Utf8.decode s i).2 : Int) = ((i + (Utf8.decode s i).2 : Nat) : Int) := by omega
      rw [e]
      exact ih (s.size - (i + (Utf8.decode s i).2)) (by omega) (k + 3) (i + (Utf8.decode s i).2) _ _ rfl hp.2 (by omega) (by simp; omega) (by simp; omega)
    · rw [if_neg (by omega)]
      exact ⟨_, rfl, by show x.length ≤ _; omega⟩
theorem runes_f (s : ByteArray) (hs : s.size ≤ 1099511627776) (k : Nat) (hk : s.size + 3 < k) : ∃ r, cachepotref1_Runes.f k s = some r ∧ r.1.length ≤ s.size :=
  runes_l0 s hs s.size k 0 [] [] (by omega) (by omega) hk (by simp) (by simp)
theorem common_l0 (x y : List Int) (hb : x.length ≤ 1099511627776) : ∀ (d k i : Nat), x.length - i = d → i ≤ x.length → i ≤ y.length → d < k → ∃ r : Nat, cachepotref1_KeyCommon.l0 k x y (i : Int) = some (r : Int) ∧ r ≤ x.length ∧ r ≤ y.length := by
  intro d
  induction d with
  | zero =>
    intro k i hd hi hy hk
    obtain ⟨k, rfl⟩ : ∃ m, k = m + 1 := ⟨k - 1, by omega⟩
    simp only [cachepotref1_KeyCommon.l0]
    rw [if_neg (by omega)]
    exact ⟨i, rfl, hi, hy⟩
  | succ d ih =>
    intro k i hd hi hy hk
    obtain ⟨k, rfl⟩ : ∃ m, k = m + 1 := ⟨k - 1, by omega⟩
    simp only [cachepotref1_KeyCommon.l0]
    rw [if_pos (by omega)]
    by_cases h : i < y.length
    · rw [if_pos (by omega), if_pos (by omega), w64 _ (by omega) (by omega)]
      split
      · exact ih k (i + 1) (by omega) (by omega) (by omega) (by omega)
      · exact ⟨i, rfl, hi, hy⟩
    · rw [if_neg (by omega)]
      exact ⟨i, rfl, hi, hy⟩
theorem cmp_f (a b : ByteArray) (ha : a.size ≤ 1099511627776) (hb : b.size ≤ 1099511627776) (k : Nat) (hk : a.size + b.size + 10 ≤ k) : ∃ r, cachepotref1_KeyCmp.f k a b = some r := by
  obtain ⟨x, hx, hxl⟩ := runes_f a ha k (by omega)
  obtain ⟨y, hy, _⟩ := runes_f b hb k (by omega)
  obtain ⟨n, hn, h1, h2⟩ := common_l0 x.1 y.1 (by omega) x.1.length k 0 (by omega) (by omega) (by omega) (by omega)
  have hc : cachepotref1_KeyCommon.f k a b = some (n : Int) := by
    unfold cachepotref1_KeyCommon.f
    rw [hx, hy]
    exact hn
  unfold cachepotref1_KeyCmp.f
  rw [hx, hy, hc]
  simp only [Option.bind_some]
  obtain ⟨k, rfl⟩ : ∃ m, k = m + 1 := ⟨k - 1, by omega⟩
  split
  · rename_i h
    simp only [cachepotref1_KeyCmp.j0]
    split
    · exact ⟨_, rfl⟩
    · first | exact ⟨_, rfl⟩ | (rw [if_pos h]; exact ⟨_, rfl⟩)
  · rename_i h
    simp only [cachepotref1_KeyCmp.j0]
    rw [if_neg (by decide), if_neg h]
    split
    · exact ⟨_, rfl⟩
    · rename_i h'
      rw [if_pos (by omega), if_pos (by omega), if_pos (by omega)]
      split <;> exact ⟨_, rfl⟩
/-- does a text stand ahead of another? -/
def aheadB (a b : ByteArray) : Bool := (cachepotref1_Ahead.f (a.size + b.size + 10) a b).getD false
theorem ahead_f (a b : ByteArray) (ha : a.size ≤ 1099511627776) (hb : b.size ≤ 1099511627776) : cachepotref1_Ahead.f (a.size + b.size + 10) a b = some (aheadB a b) := by
  have h : ∃ r, cachepotref1_Ahead.f (a.size + b.size + 10) a b = some r := by
    obtain ⟨r, hr⟩ := cmp_f a b ha hb _ (Nat.le_refl _)
    unfold cachepotref1_Ahead.f
    rw [hr]
    simp only [Option.bind_some]
    repeat' split
    all_goals exact ⟨_, rfl⟩
  obtain ⟨r, hr⟩ := h
  unfold aheadB
  rw [hr]
  rfl
end Go.Proofs.YtfaelejeihmgcaaDoor.Lgx.Rn
end
