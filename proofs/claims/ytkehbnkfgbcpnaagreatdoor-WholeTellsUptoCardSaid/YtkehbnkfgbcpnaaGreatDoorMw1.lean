/-
  Texts of mine, and texts that print.sh and pp.py wrote, merged and cut to what is used: Wd4, Wd5
-/
import Derived.Test.YtkehbnkfgbcpnaaGreatDoorProg
import Derived.Below
import Derived.Shelf.Unicode.DecodeSlow
import Derived.Lib.ItoaMem
import Derived.Lib.LaidTab
import Derived.Deep.Draws
import Derived.Deep.AppendLies
import Derived.Maps.AppendAt
import Derived.OwnWalk
import Derived.Laws.BytesArg
import Derived.Laws.MakeOwn
import Derived.Laws.OwnMore
import Derived.Deep.OwnRows
import Derived.Tactics
import Derived.Lib.ConvBytes
import Derived.Laws.Slices
import Derived.WalkKit
import Derived.KernelRfl
import Derived.RowKit3
import Derived.Deep.LoopGhost
import Derived.Deep.QuietTactic
import Derived.BigQuiet
import Derived.WideLaws
import Derived.Deep.DeepCutAuto
import Derived.Deep.CutBlock
import Derived.Deep.RegionHeld3
import Derived.Laws.Rows
import Derived.Lib.AppendStr
import Derived.ArgAppend
import Derived.Laws.IdiomCopy
import Derived.RowKit
import Derived.Test.YtkehbnkfgbcpnaaGreatDoorRows
import Derived.ChangeArms
import Derived.DataReads
import Derived.DataElems
import Derived.OrdersHeld
import Derived.Laws.BitsLemmas
import Derived.Laws.StructEq
import Derived.Test.YtkehbnkfgbcpnaaGreatDoorCards
import Derived.Test.YtkehbnkfgbcpnaaGreatDoorTie
import Derived.Lib.LaidU8T
import Derived.Lib.LaidU8
import Derived.PinnedBridge
import Derived.LaidMore
import Derived.Lay
import Derived.ProofKit
import Derived.OpenShut
import Derived.SevenTiedAt
import Derived.Stop.Joined
import Derived.Deep.DeepHandedRow
import Derived.SliceStrings
import Derived.Carry
import Derived.Shelf.Strings.Builder1
import Derived.Shelf.Strings.Builder2
import Derived.Shelf.Strings.OnBuilder
import Derived.Shelf.Strings.BuilderF
import Derived.Shelf.Strconv.Itoa0
import Derived.Shelf.Strconv.Itoa1
import Derived.Shelf.LaysM
import Derived.Shelf.Strconv.Itoa2
import Derived.Shelf.Strconv.Itoa3
import Derived.Shelf.Strings.Prefix
import Derived.Shelf.Unicode.Decode
import Derived.Shelf.Strings.Repeat
import Derived.Shelf.Unicode.DecodeAny
import Derived.Lib.Strings
import Derived.Lib.Slices
import Derived.Lib.Walk
import Derived.Lib.Builder
import Derived.Lib.UnsafeStr
import Derived.Laws.Externs
import Derived.Lib.DecodeNEq
import Derived.Lib.OthersKept
import Derived.Lib.Hide
import Derived.BigCall
import Derived.Outline
import Derived.StillTailTactics
import Derived.Lib.AppendIntMem
import Derived.FnData
import Derived.Tactics2
import Derived.BigGuard
import Derived.IntWalk
import Derived.WalkSpells
import Derived.Laws.Pointers
import Derived.Lib.Bytealg
import Derived.Lib.Repeat
import Derived.Laws.BytesString
import Derived.Laws.Cells
import Derived.Laws.Sem
import Derived.Laws.Strings
import Derived.Laws.World
import Derived.Orders
import Derived.Lib.Join
import Derived.Test.YtkehbnkfgbcpnaaGreatDoorMw0

section
namespace Go.Proofs.YtkehbnkfgbcpnaaGreatDoor.Wd
open Go.RowKit Go.Proofs.YtkehbnkfgbcpnaaGreatDoorW.PrintWords Go.Proofs.YtkehbnkfgbcpnaaGreatDoorW.PrintLast Go.Proofs.YtkehbnkfgbcpnaaGreatDoorW.PrintMore
attribute [local go_sem] max2_int min2_int max_two min_two max_three min_three max_four min_four   -- for this text's walks alone
set_option linter.unusedVariables false
set_option linter.unusedSimpArgs false
mutual
def cachepot_Tell.j0 : Nat → List ByteArray → Int → Int → Int → Int → List (S39) → List ByteArray → List ByteArray → Option (ByteArray)
  | 0, _, _, _, _, _, _, _, _ => none
  | k + 1, x3, x117000, x117001, x117002, x117003, x117004, x117005, x117006 => if x117001 = 0 then (cachepot_Tell.j1 k x3 x117000 x117001 x117002 x117003 x117004 x117005 x117006) else ((strconv_Itoa.f x117001).bind fun t124 => ((some (([(⟨#[115, 101, 115, 115, 105, 111, 110]⟩ : ByteArray), t124] : List ByteArray) : List ByteArray)).bind fun y125 => (if x3.length + y125.length < 8796093022208 then (cachepot_Tell.j1 k (x3 ++ y125) x117000 x117001 x117002 x117003 x117004 x117005 x117006) else (none))))
def cachepot_Tell.j1 : Nat → List ByteArray → Int → Int → Int → Int → List (S39) → List ByteArray → List ByteArray → Option (ByteArray)
  | 0, _, _, _, _, _, _, _, _ => none
  | k + 1, x3, x117000, x117001, x117002, x117003, x117004, x117005, x117006 => if x117002 = 0 then (cachepot_Tell.j2 k x3 x117000 x117001 x117002 x117003 x117004 x117005 x117006) else ((cachepot_decimal.f x117002).bind fun t131 => ((some (([(⟨#[115, 101, 113]⟩ : ByteArray), t131] : List ByteArray) : List ByteArray)).bind fun y132 => (if x3.length + y132.length < 8796093022208 then (cachepot_Tell.j2 k (x3 ++ y132) x117000 x117001 x117002 x117003 x117004 x117005 x117006) else (none))))
def cachepot_Tell.j2 : Nat → List ByteArray → Int → Int → Int → Int → List (S39) → List ByteArray → List ByteArray → Option (ByteArray)
  | 0, _, _, _, _, _, _, _, _ => none
  | k + 1, x3, x117000, x117001, x117002, x117003, x117004, x117005, x117006 => if x117003 = 0 then (cachepot_Tell.j3 k x3 x117000 x117001 x117002 x117003 x117004 x117005 x117006) else ((strconv_Itoa.f x117003).bind fun t138 => ((some (([(⟨#[110]⟩ : ByteArray), t138] : List ByteArray) : List ByteArray)).bind fun y139 => (if x3.length + y139.length < 8796093022208 then (cachepot_Tell.j3 k (x3 ++ y139) x117000 x117001 x117002 x117003 x117004 x117005 x117006) else (none))))
def cachepot_Tell.j3 : Nat → List ByteArray → Int → Int → Int → Int → List (S39) → List ByteArray → List ByteArray → Option (ByteArray)
  | 0, _, _, _, _, _, _, _, _ => none
  | k + 1, x3, x117000, x117001, x117002, x117003, x117004, x117005, x117006 => cachepot_Tell.l0 k x3 x117004 (x117004.length : Int) 0 x117000 x117001 x117002 x117003 x117004 x117005 x117006
def cachepot_Tell.l0 : Nat → List ByteArray → List (S39) → Int → Int → Int → Int → Int → Int → List (S39) → List ByteArray → List ByteArray → Option (ByteArray)
  | 0, _, _, _, _, _, _, _, _, _, _, _ => none
  | k + 1, x3, x46, x47, x48, x117000, x117001, x117002, x117003, x117004, x117005, x117006 => if x48 < x47 then (if 0 ≤ x48 then (if x48 < (x46.length : Int) then (if (rd_T39 x46 x48).f1 = true then ((word_Quote.f ((rd_T39 x46 x48).f0)).bind fun t147 => (if t147.size + 1 ≤ 9223372036854775807 then ((word_Quote.f ((rd_T39 x46 x48).f2)).bind fun t148 => (if (t147 ++ (⟨#[61]⟩ : ByteArray)).size + t148.size ≤ 9223372036854775807 then (if ((t147 ++ (⟨#[61]⟩ : ByteArray)) ++ t148).size + 1 ≤ 9223372036854775807 then ((cachepot_decimal.f ((rd_T39 x46 x48).f3)).bind fun t149 => (if (((t147 ++ (⟨#[61]⟩ : ByteArray)) ++ t148) ++ (⟨#[64]⟩ : ByteArray)).size + t149.size ≤ 9223372036854775807 then (if x3.length < 8796093022208 then (cachepot_Tell.l0 k (x3 ++ [(((t147 ++ (⟨#[61]⟩ : ByteArray)) ++ t148) ++ (⟨#[64]⟩ : ByteArray)) ++ t149]) x46 x47 (wrap64 (x48 + 1)) x117000 x117001 x117002 x117003 x117004 x117005 x117006) else (none)) else (none))) else (none)) else (none))) else (none))) else ((word_Quote.f ((rd_T39 x46 x48).f0)).bind fun t153 => (if t153.size + 1 ≤ 9223372036854775807 then (if x3.length < 8796093022208 then (cachepot_Tell.l0 k (x3 ++ [t153 ++ (⟨#[63]⟩ : ByteArray)]) x46 x47 (wrap64 (x48 + 1)) x117000 x117001 x117002 x117003 x117004 x117005 x117006) else (none)) else (none)))) else (none)) else (none)) else (cachepot_Tell.l1 k x3 x117005 (x117005.length : Int) 0 x117000 x117001 x117002 x117003 x117004 x117005 x117006)
def cachepot_Tell.l1 : Nat → List ByteArray → List ByteArray → Int → Int → Int → Int → Int → Int → List (S39) → List ByteArray → List ByteArray → Option (ByteArray)
  | 0, _, _, _, _, _, _, _, _, _, _, _ => none
  | k + 1, x3, x79, x80, x81, x117000, x117001, x117002, x117003, x117004, x117005, x117006 => if x81 < x80 then (if 0 ≤ x81 then (if x81 < (x79.length : Int) then ((word_Quote.f (rdOf ByteArray.empty x79 x81)).bind fun t158 => (if x3.length < 8796093022208 then (cachepot_Tell.l1 k (x3 ++ [t158]) x79 x80 (wrap64 (x81 + 1)) x117000 x117001 x117002 x117003 x117004 x117005 x117006) else (none))) else (none)) else (none)) else (if (x117006.length : Int) > 0 then (if x3.length < 8796093022208 then (cachepot_Tell.j6 k (x3 ++ [(⟨#[102, 111, 114, 103, 111, 116]⟩ : ByteArray)]) x117000 x117001 x117002 x117003 x117004 x117005 x117006) else (none)) else (cachepot_Tell.j6 k x3 x117000 x117001 x117002 x117003 x117004 x117005 x117006))
def cachepot_Tell.j6 : Nat → List ByteArray → Int → Int → Int → Int → List (S39) → List ByteArray → List ByteArray → Option (ByteArray)
  | 0, _, _, _, _, _, _, _, _ => none
  | k + 1, x3, x117000, x117001, x117002, x117003, x117004, x117005, x117006 => cachepot_Tell.l2 k x3 x117006 (x117006.length : Int) 0
def cachepot_Tell.l2 : Nat → List ByteArray → List ByteArray → Int → Int → Option (ByteArray)
  | 0, _, _, _, _ => none
  | k + 1, x3, x99, x100, x101 => if x101 < x100 then (if 0 ≤ x101 then (if x101 < (x99.length : Int) then ((word_Quote.f (rdOf ByteArray.empty x99 x101)).bind fun t166 => (if x3.length < 8796093022208 then (cachepot_Tell.l2 k (x3 ++ [t166]) x99 x100 (wrap64 (x101 + 1))) else (none))) else (none)) else (none)) else ((strings_Join.f x3 (⟨#[32]⟩ : ByteArray)).bind fun t170 => (some t170))
end
def cachepot_Tell.f (k : Nat) (a0_0 : Int) (a0_1 : Int) (a0_2 : Int) (a0_3 : Int) (l0_4 : List (S39)) (l0_5 : List ByteArray) (l0_6 : List ByteArray) : Option (ByteArray) := if a0_0 = 0 then (cachepot_Tell.j0 k (([(⟨#[111, 107]⟩ : ByteArray)] : List ByteArray)) a0_0 a0_1 a0_2 a0_3 l0_4 l0_5 l0_6) else ((strconv_Itoa.f a0_0).bind fun t120 => (cachepot_Tell.j0 k (([(⟨#[101, 114, 114, 111, 114]⟩ : ByteArray), t120] : List ByteArray)) a0_0 a0_1 a0_2 a0_3 l0_4 l0_5 l0_6))
def cachepot_Tell.T14 : Bool × List (List Nat × List Nat) := (true, [([], []), ([], []), ([1], [1]), ([2], [2]), ([3], [3]), ([], []), ([5], [5]), ([6, 3], [6]), ([4, 7], [4, 7]), ([8], [8]), ([], []), ([10], [10]), ([11, 7], [11]), ([9, 12], [9, 12]), ([13], [13]), ([0, 14, 12], [0, 14]), ([15, 15, 0, 1, 2, 3, 4, 5, 6, 7, 8, 9, 10, 11, 12, 13, 14, 15], [0, 15])])
def cachepot_Tell.B14 : List Nat := [0, 0, 2, 6, 14, 0, 32, 110, 254, 510, 0, 1024, 3310, 8190, 16382, 32767, 65535]
theorem cachepot_Tell.tab14 : rtab .any (opsOf Tryz.f6 14) = cachepot_Tell.T14 := by kernel_rfl
theorem cachepot_Tell.bits14 : waitsOk cachepot_Tell.T14.2 cachepot_Tell.B14 = true := by kernel_rfl
set_option maxHeartbeats 8000000 in
set_option maxRecDepth 100000 in
theorem cachepot_Tell.calls (k : Nat) (a0_0 : Int) (a0_1 : Int) (a0_2 : Int) (a0_3 : Int) (A0_4 : Option Addr) (c0_4 : Nat) (l0_4 : List (S39)) (A0_5 : Option Addr) (c0_5 : Nat) (l0_5 : List ByteArray) (A0_6 : Option Addr) (c0_6 : Nat) (l0_6 : List ByteArray) (r : ByteArray) (w : World) (hr0_4 : Kd.C k39 w A0_4 l0_4.length l0_4) (hc0_4 : l0_4.length ≤ c0_4) (hr0_5 : Kd.C Kd.string w A0_5 l0_5.length l0_5) (hc0_5 : l0_5.length ≤ c0_5) (hr0_6 : Kd.C Kd.string w A0_6 l0_6.length l0_6) (hc0_6 : l0_6.length ≤ c0_6) (h : cachepot_Tell.f k a0_0 a0_1 a0_2 a0_3 l0_4 l0_5 l0_6 = some r) (hT : Tabs w) :
    Calls Tryz.prog 6 #[.agg #[.int .i64 a0_0, .int .i64 a0_1, .int .u32 a0_2, .int .i64 a0_3, .slice A0_4 l0_4.length c0_4, .slice A0_5 l0_5.length c0_5, .slice A0_6 l0_6.length c0_6]] w fun e w' => e = .returned (.string r) ∧ Below w.heap.size w w' := by
  have hu27 := Tryz.underlying27
  have hu39 := Tryz.underlying39
  have HR0_4 := Aside0.mk hr0_4
  have HC0_4 := Aside0.mk hc0_4
  clear hr0_4 hc0_4
  have HR0_5 := Aside0.mk hr0_5
  have HC0_5 := Aside0.mk hc0_5
  clear hr0_5 hc0_5
  have HR0_6 := Aside0.mk hr0_6
  have HC0_6 := Aside0.mk hc0_6
  clear hr0_6 hc0_6
  have HB := Aside0.mk (Below.refl w.heap.size w)
  have H : (if a0_0 = 0 then (cachepot_Tell.j0 k (([(⟨#[111, 107]⟩ : ByteArray)] : List ByteArray)) a0_0 a0_1 a0_2 a0_3 l0_4 l0_5 l0_6) else ((strconv_Itoa.f a0_0).bind fun t120 => (cachepot_Tell.j0 k (([(⟨#[101, 114, 114, 111, 114]⟩ : ByteArray), t120] : List ByteArray)) a0_0 a0_1 a0_2 a0_3 l0_4 l0_5 l0_6))) = some r := h
  clear h
  obtain ⟨y117, hy117⟩ : ∃ y_ : List ByteArray, y_ = (([(⟨#[111, 107]⟩ : ByteArray)] : List ByteArray)) := ⟨_, rfl⟩
  replace H : (if a0_0 = 0 then (cachepot_Tell.j0 k y117 a0_0 a0_1 a0_2 a0_3 l0_4 l0_5 l0_6) else ((strconv_Itoa.f a0_0).bind fun t120 => (cachepot_Tell.j0 k (([(⟨#[101, 114, 114, 111, 114]⟩ : ByteArray), t120] : List ByteArray)) a0_0 a0_1 a0_2 a0_3 l0_4 l0_5 l0_6))) = some r := by first | (rw [hy117]; with_reducible exact H) | (have H2_ := (Option.bind_some _ _).symm.trans H; rw [hy117]; with_reducible exact H2_) | (have H2_ := (Option.bind_some _ _).symm.trans H; with_reducible exact H2_) | with_reducible exact H | (rw [hy117]; exact H) | exact H
  have Ny117 := Aside0.mk hy117
  clear hy117
  have HC2 := Aside0.mk H
  clear H
  go_enter Tryz.func6, Tryz.ntmps6
  go_upto_if 13 with (first | ((with_reducible refine gate_dst (N := 1) rfl ?_); refine box_event ?hg (N := 1) ?hd (cs := #[.int .i64 a0_0, .int .i64 a0_1, .int .u32 a0_2, .int .i64 a0_3, .slice A0_4 l0_4.length c0_4, .slice A0_5 l0_5.length c0_5, .slice A0_6 l0_6.length c0_6]) (t := 27) ?hr ?_; (case hd => rfl); (case hg => rfl); (case hr => first | (go_simp; done) | (go_simp; rfl)); intro gb116 hg w3 hbox hb; have n0_ := Aside0.mk (below_step (by repeat (first | (with_reducible first | exact HB.out | apply below_alloc | apply pw_below_drewN | apply below_drew1) | exact HB.out)) hb); have n1_ := Aside0.mk (hbox); have n2_ := Aside0.mk ((by rw [hg]; exact (below_size (by repeat (first | (with_reducible first | exact HB.out | apply below_alloc | apply pw_below_drewN | apply below_drew1) | exact HB.out))) : w.heap.size ≤ gb116)); have n3_ := Aside0.mk ((by rw [hg]; exact (below_size (by repeat (first | (with_reducible first | exact HB.out | apply below_alloc | apply pw_below_drewN | apply below_drew1) | exact HB.out))) : w.heap.size ≤ gb116)); clear HB; have HB := n0_; have BK116 := n1_; have GW116 := n2_; have GE116 := n3_; clear n0_ n1_ n2_ n3_; clear hb hbox hg) | ((with_reducible refine gate_dst (N := 10) rfl ?_); refine Kd.R_lit Kd.string _ 9 ?hg (N := 10) ?hd (xs := ([(⟨#[111, 107]⟩ : ByteArray)] : List ByteArray)) (inner := [.string (⟨#[111, 107]⟩ : ByteArray)]) (ok := fun _ => True) (okp := fun _ => True) ?hr ?hp (fun _ hk => hk) trivial (Below.refl _ _) (Nat.le_refl _) (by simp) ?_; (case hd => rfl); (case hg => rfl); (case hr => first | (go_simp; done) | (go_simp; rfl)); (case hp => exact (Reps.one (show Kd.M Kd.string _ _ _ (⟨#[111, 107]⟩ : ByteArray) [.string (⟨#[111, 107]⟩ : ByteArray)] from rfl) (Reps.none _ _))); intro v118 w4 ho5 hb hg_ hnew_; clear hg_ hnew_; (first | rw [← Ny117.out] at ho5 | (simp only [Int.reduceToNat] at ho5; rw [← Ny117.out] at ho5)); have n0_ := Aside0.mk (Kd.R_lower ho5 (below_size (by repeat (first | (with_reducible first | exact HB.out | apply below_alloc | apply pw_below_drewN | apply below_drew1 | refine below_set ?_ GE116.out) | exact HB.out)))); have n1_ := Aside0.mk (blk_below (g := gb116) (o := .cells #[.int .i64 a0_0, .int .i64 a0_1, .int .u32 a0_2, .int .i64 a0_3, .slice A0_4 l0_4.length c0_4, .slice A0_5 l0_5.length c0_5, .slice A0_6 l0_6.length c0_6] 27 (0, 0)) (by (with_reducible repeat (first | refine blk_drewN ?_ _ | refine blk_drew ?_ | refine blk_alloc ?_ _)); exact BK116.out) hb); have n2_ := Aside0.mk (below_step (by repeat (first | (with_reducible first | exact HB.out | apply below_alloc | apply pw_below_drewN | apply below_drew1 | refine below_set ?_ GE116.out) | exact HB.out)) hb); clear BK116; clear HB; have HO119 := n0_; have BK116 := n1_; have HB := n2_; clear n0_ n1_ n2_; clear hb ho5; have hcz6_0 : w4.cell? ⟨gb116, 0, none⟩ = some (.int .i64 a0_0) := (blk_cell BK116.out 0).trans rfl; have hcz6_1 : w4.cell? ⟨gb116, 1, none⟩ = some (.int .i64 a0_1) := (blk_cell BK116.out 1).trans rfl; have hcz6_2 : w4.cell? ⟨gb116, 2, none⟩ = some (.int .u32 a0_2) := (blk_cell BK116.out 2).trans rfl; have hcz6_3 : w4.cell? ⟨gb116, 3, none⟩ = some (.int .i64 a0_3) := (blk_cell BK116.out 3).trans rfl; have hcz6_4 : w4.cell? ⟨gb116, 4, none⟩ = some (.slice A0_4 l0_4.length c0_4) := (blk_cell BK116.out 4).trans rfl; have hcz6_5 : w4.cell? ⟨gb116, 5, none⟩ = some (.slice A0_5 l0_5.length c0_5) := (blk_cell BK116.out 5).trans rfl; have hcz6_6 : w4.cell? ⟨gb116, 6, none⟩ = some (.slice A0_6 l0_6.length c0_6) := (blk_cell BK116.out 6).trans rfl; have hfz6_0 := blk_frozen BK116.out 0; have hfz6_1 := blk_frozen BK116.out 1; have hfz6_2 := blk_frozen BK116.out 2; have hfz6_3 := blk_frozen BK116.out 3; have hfz6_4 := blk_frozen BK116.out 4; have hfz6_5 := blk_frozen BK116.out 5; have hfz6_6 := blk_frozen BK116.out 6))
  (try simp only [Act.put, List.setIfInBounds_toArray, List.set_cons_zero, List.set_cons_succ])
  go_cut [3] (fun v3 wc => ∃ (kq : Nat) (x3_1 : List ByteArray), Aside0 (cachepot_Tell.j0 kq x3_1 a0_0 a0_1 a0_2 a0_3 l0_4 l0_5 l0_6 = some r) ∧ Aside0 (kq ≤ k) ∧ Aside0 (Kd.R Kd.string 9 wc w.heap.size (fun _ => True) v3 x3_1) ∧ Aside0 (wc.heap[gb116]? = some (.cells #[.int .i64 a0_0, .int .i64 a0_1, .int .u32 a0_2, .int .i64 a0_3, (.slice A0_4 l0_4.length c0_4), (.slice A0_5 l0_5.length c0_5), (.slice A0_6 l0_6.length c0_6)] 27 (0, 0))) ∧ Aside0 (Below w.heap.size w wc))
  case first =>
    have H := HC2.out
    clear HC2
    by_cases c7 : a0_0 = 0
    · rw [if_pos c7] at H
      have c7b0 : (a0_0 == 0) = true := beq_iff_eq.mpr c7
      have c7b1 : (a0_0 != 0) = false := bne_eq_false_iff_eq.mpr c7
      clear c7
      (first | rw [c7b0] | (simp only [i64_w, i32_w]; rw [c7b0]) | skip)
      have H' := Aside0.mk H
      clear H
      go_wp2
      go_meet
      case rel => exact ⟨_, (y117), H', ⟨by first | omega | exact Nat.le_refl _⟩, ⟨by (with_reducible repeat (first | apply Kd.R_alloc | apply Kd.R_drewN | apply Kd.R_drew)); exact HO119.out⟩, ⟨by (with_reducible repeat (first | refine blk_drewN ?_ _ | refine blk_drew ?_ | refine blk_alloc ?_ _)); exact BK116.out⟩, ⟨by repeat (first | (with_reducible first | exact HB.out | apply below_alloc | apply pw_below_drewN | apply below_drew1 | refine below_set ?_ GE116.out) | exact HB.out)⟩⟩
    · rw [if_neg c7] at H
      have c7b0 : (a0_0 == 0) = false := beq_eq_false_iff_ne.mpr c7
      have c7b1 : (a0_0 != 0) = true := bne_iff_ne.mpr c7
      (first | rw [c7b0] | (simp only [i64_w, i32_w]; rw [c7b0]) | skip)
      replace H := Option.bind_eq_some_iff.mp H
      obtain ⟨t120, A80, H⟩ := H
      replace H : (cachepot_Tell.j0 k (([(⟨#[101, 114, 114, 111, 114]⟩ : ByteArray), t120] : List ByteArray)) a0_0 a0_1 a0_2 a0_3 l0_4 l0_5 l0_6) = some r := H
      have A8 := Aside0.mk A80
      clear A80
      obtain ⟨y121, hy121⟩ : ∃ y_ : List ByteArray, y_ = (([(⟨#[101, 114, 114, 111, 114]⟩ : ByteArray), t120] : List ByteArray)) := ⟨_, rfl⟩
      replace H : (cachepot_Tell.j0 k y121 a0_0 a0_1 a0_2 a0_3 l0_4 l0_5 l0_6) = some r := by first | (rw [hy121]; with_reducible exact H) | (have H2_ := (Option.bind_some _ _).symm.trans H; rw [hy121]; with_reducible exact H2_) | (have H2_ := (Option.bind_some _ _).symm.trans H; with_reducible exact H2_) | with_reducible exact H | (rw [hy121]; exact H) | exact H
      have Ny121 := Aside0.mk hy121
      clear hy121
      have H' := Aside0.mk H
      clear H
      have hcz9_0 : w4.cell? ⟨gb116, 0, none⟩ = some (.int .i64 a0_0) := (blk_cell BK116.out 0).trans rfl
      have hcz9_1 : w4.cell? ⟨gb116, 1, none⟩ = some (.int .i64 a0_1) := (blk_cell BK116.out 1).trans rfl
      have hcz9_2 : w4.cell? ⟨gb116, 2, none⟩ = some (.int .u32 a0_2) := (blk_cell BK116.out 2).trans rfl
      have hcz9_3 : w4.cell? ⟨gb116, 3, none⟩ = some (.int .i64 a0_3) := (blk_cell BK116.out 3).trans rfl
      have hcz9_4 : w4.cell? ⟨gb116, 4, none⟩ = some (.slice A0_4 l0_4.length c0_4) := (blk_cell BK116.out 4).trans rfl
      have hcz9_5 : w4.cell? ⟨gb116, 5, none⟩ = some (.slice A0_5 l0_5.length c0_5) := (blk_cell BK116.out 5).trans rfl
      have hcz9_6 : w4.cell? ⟨gb116, 6, none⟩ = some (.slice A0_6 l0_6.length c0_6) := (blk_cell BK116.out 6).trans rfl
      have hfz9_0 := blk_frozen BK116.out 0
      have hfz9_1 := blk_frozen BK116.out 1
      have hfz9_2 := blk_frozen BK116.out 2
      have hfz9_3 := blk_frozen BK116.out 3
      have hfz9_4 := blk_frozen BK116.out 4
      have hfz9_5 := blk_frozen BK116.out 5
      have hfz9_6 := blk_frozen BK116.out 6
      go_wp2_with (first | ((with_reducible refine gate_callee (f := 9) rfl ?_); refine goesL_ (some 16) rfl rfl Tryz.func9 (by kernel_rfl) rfl #[.int .i64 a0_0] rfl (by (try simp only [List.map_toArray, List.map_cons, List.map_nil]); first | done | rfl | (simp only [List.length_drop, List.length_take]; rfl)) ?_; (with_reducible refine (strconv_Itoa.calls a0_0 t120 _ A8.out (by first | exact hT | (refine Tabs.below hT ?_; (repeat (first | (with_reducible first | exact HB.out | exact Below.refl _ _ | apply below_alloc | apply pw_below_drewN | apply below_drew1) | exact HB.out))))).mono ?_); rintro e w10 ⟨rfl, hb⟩; refine ⟨_, rfl, ?_⟩; have n0_ := Aside0.mk (Kd.R_below (by (with_reducible repeat (first | apply Kd.R_alloc | apply Kd.R_drewN | apply Kd.R_drew)); exact HO119.out) hb); have n1_ := Aside0.mk (blk_below (g := gb116) (o := .cells #[.int .i64 a0_0, .int .i64 a0_1, .int .u32 a0_2, .int .i64 a0_3, .slice A0_4 l0_4.length c0_4, .slice A0_5 l0_5.length c0_5, .slice A0_6 l0_6.length c0_6] 27 (0, 0)) (by (with_reducible repeat (first | refine blk_drewN ?_ _ | refine blk_drew ?_ | refine blk_alloc ?_ _)); exact BK116.out) hb); have n2_ := Aside0.mk (below_step (by repeat (first | (with_reducible first | exact HB.out | apply below_alloc | apply pw_below_drewN | apply below_drew1 | refine below_set ?_ GE116.out) | exact HB.out)) hb); clear HO119; clear BK116; clear HB; have HO119 := n0_; have BK116 := n1_; have HB := n2_; clear n0_ n1_ n2_; (try clear hb); (try clear hb2); (try clear hk); (try clear hi)) | ((with_reducible refine gate_dst (N := 17) rfl ?_); refine Kd.R_lit Kd.string _ 9 ?hg (N := 17) ?hd (xs := ([(⟨#[101, 114, 114, 111, 114]⟩ : ByteArray), t120] : List ByteArray)) (inner := [.string (⟨#[101, 114, 114, 111, 114]⟩ : ByteArray), .string t120]) (ok := fun _ => True) (okp := fun _ => True) ?hr ?hp (fun _ hk => hk) trivial (Below.refl _ _) (Nat.le_refl _) (by simp) ?_; (case hd => rfl); (case hg => rfl); (case hr => first | (go_simp; done) | (go_simp; rfl)); (case hp => exact (Reps.one (show Kd.M Kd.string _ _ _ (⟨#[101, 114, 114, 111, 114]⟩ : ByteArray) [.string (⟨#[101, 114, 114, 111, 114]⟩ : ByteArray)] from rfl) (Reps.one (show Kd.M Kd.string _ _ _ t120 [.string t120] from rfl) (Reps.none _ _)))); intro v122 w11 ho12 hb hg_ hnew_; clear hg_ hnew_; (first | rw [← Ny121.out] at ho12 | (simp only [Int.reduceToNat] at ho12; rw [← Ny121.out] at ho12)); have n0_ := Aside0.mk (Kd.R_elder' (by (with_reducible repeat (first | apply Kd.R_alloc | apply Kd.R_drewN | apply Kd.R_drew)); exact HO119.out) (Kd.R_base ho12) hb); have n1_ := Aside0.mk (Kd.R_lower (Kd.R_new' ho12 (Kd.R_lt (by (with_reducible repeat (first | apply Kd.R_alloc | apply Kd.R_drewN | apply Kd.R_drew)); exact HO119.out))) (below_size (by repeat (first | (with_reducible first | exact HB.out | apply below_alloc | apply pw_below_drewN | apply below_drew1 | refine below_set ?_ GE116.out) | exact HB.out)))); have n2_ := Aside0.mk (blk_below (g := gb116) (o := .cells #[.int .i64 a0_0, .int .i64 a0_1, .int .u32 a0_2, .int .i64 a0_3, .slice A0_4 l0_4.length c0_4, .slice A0_5 l0_5.length c0_5, .slice A0_6 l0_6.length c0_6] 27 (0, 0)) (by (with_reducible repeat (first | refine blk_drewN ?_ _ | refine blk_drew ?_ | refine blk_alloc ?_ _)); exact BK116.out) hb); have n3_ := Aside0.mk (below_step (by repeat (first | (with_reducible first | exact HB.out | apply below_alloc | apply pw_below_drewN | apply below_drew1 | refine below_set ?_ GE116.out) | exact HB.out)) hb); clear HO119; clear BK116; clear HB; have HO119 := n0_; have HO123 := n1_; have BK116 := n2_; have HB := n3_; clear n0_ n1_ n2_ n3_; clear hb ho12))
      go_meet
      case rel => exact ⟨_, (y121), H', ⟨by first | omega | exact Nat.le_refl _⟩, ⟨by (with_reducible repeat (first | apply Kd.R_alloc | apply Kd.R_drewN | apply Kd.R_drew)); exact Kd.R_mono HO123.out (fun _ hk => trivial)⟩, ⟨by (with_reducible repeat (first | refine blk_drewN ?_ _ | refine blk_drew ?_ | refine blk_alloc ?_ _)); exact BK116.out⟩, ⟨by repeat (first | (with_reducible first | exact HB.out | apply below_alloc | apply pw_below_drewN | apply below_drew1 | refine below_set ?_ GE116.out) | exact HB.out)⟩⟩
  case rest =>
    clear HC2
    try clear p2
    try clear c6
    try clear c7
    try clear c7b0
    try clear c7b1
    try clear c9
    try clear hcz6_0
    try clear hcz6_1
    try clear hcz6_2
    try clear hcz6_3
    try clear hcz6_4
    try clear hcz6_5
    try clear hcz6_6
    try clear hcz9_0
    try clear hcz9_1
    try clear hcz9_2
    try clear hcz9_3
    try clear hcz9_4
    try clear hcz9_5
    try clear hcz9_6
    try clear hfz6_0
    try clear hfz6_1
    try clear hfz6_2
    try clear hfz6_3
    try clear hfz6_4
    try clear hfz6_5
    try clear hfz6_6
    try clear hfz9_0
    try clear hfz9_1
    try clear hfz9_2
    try clear hfz9_3
    try clear hfz9_4
    try clear hfz9_5
    try clear hfz9_6
    obtain ⟨kq, x3_1, HA, HJ1, HO_3, BK116, HB⟩ := hcut
    cases kq with
    | zero => exact absurd HA.out (by simp [cachepot_Tell.j0])
    | succ kj1 =>
      have H := HA.out
      clear HA
      simp only [cachepot_Tell.j0] at H
      have HC13 := Aside0.mk H
      clear H
      have hcz14_0 : wc.cell? ⟨gb116, 0, none⟩ = some (.int .i64 a0_0) := (blk_cell BK116.out 0).trans rfl
      have hcz14_1 : wc.cell? ⟨gb116, 1, none⟩ = some (.int .i64 a0_1) := (blk_cell BK116.out 1).trans rfl
      have hcz14_2 : wc.cell? ⟨gb116, 2, none⟩ = some (.int .u32 a0_2) := (blk_cell BK116.out 2).trans rfl
      have hcz14_3 : wc.cell? ⟨gb116, 3, none⟩ = some (.int .i64 a0_3) := (blk_cell BK116.out 3).trans rfl
      have hcz14_4 : wc.cell? ⟨gb116, 4, none⟩ = some (.slice A0_4 l0_4.length c0_4) := (blk_cell BK116.out 4).trans rfl
      have hcz14_5 : wc.cell? ⟨gb116, 5, none⟩ = some (.slice A0_5 l0_5.length c0_5) := (blk_cell BK116.out 5).trans rfl
      have hcz14_6 : wc.cell? ⟨gb116, 6, none⟩ = some (.slice A0_6 l0_6.length c0_6) := (blk_cell BK116.out 6).trans rfl
      have hfz14_0 := blk_frozen BK116.out 0
      have hfz14_1 := blk_frozen BK116.out 1
      have hfz14_2 := blk_frozen BK116.out 2
      have hfz14_3 := blk_frozen BK116.out 3
      have hfz14_4 := blk_frozen BK116.out 4
      have hfz14_5 := blk_frozen BK116.out 5
      have hfz14_6 := blk_frozen BK116.out 6
      go_upto_if 20 with (fail)
      go_cut [3] (fun v3 wc => ∃ (kq : Nat) (x3_12 : List ByteArray), Aside0 (cachepot_Tell.j1 kq x3_12 a0_0 a0_1 a0_2 a0_3 l0_4 l0_5 l0_6 = some r) ∧ Aside0 (kq ≤ kj1) ∧ Aside0 (Kd.R Kd.string 9 wc w.heap.size (fun _ => True) v3 x3_12) ∧ Aside0 (wc.heap[gb116]? = some (.cells #[.int .i64 a0_0, .int .i64 a0_1, .int .u32 a0_2, .int .i64 a0_3, (.slice A0_4 l0_4.length c0_4), (.slice A0_5 l0_5.length c0_5), (.slice A0_6 l0_6.length c0_6)] 27 (0, 0))) ∧ Aside0 (Below w.heap.size w wc))
      case first =>
        have H := HC13.out
        clear HC13
        by_cases c15 : a0_1 = 0
        · rw [if_pos c15] at H
          have c15b0 : (a0_1 == 0) = true := beq_iff_eq.mpr c15
          have c15b1 : (a0_1 != 0) = false := bne_eq_false_iff_eq.mpr c15
          clear c15
          (first | rw [c15b0] | (simp only [i64_w, i32_w]; rw [c15b0]) | skip)
          have H' := Aside0.mk H
          clear H
          go_wp2
          go_meet
          case rel => exact ⟨_, (x3_1), H', ⟨by have := HJ1.out; first | omega | exact Nat.le_refl _⟩, ⟨by (with_reducible repeat (first | apply Kd.R_alloc | apply Kd.R_drewN | apply Kd.R_drew)); exact HO_3.out⟩, ⟨by (with_reducible repeat (first | refine blk_drewN ?_ _ | refine blk_drew ?_ | refine blk_alloc ?_ _)); exact BK116.out⟩, ⟨by repeat (first | (with_reducible first | exact HB.out | apply below_alloc | apply pw_below_drewN | apply below_drew1 | refine below_set ?_ GE116.out) | exact HB.out)⟩⟩
        · rw [if_neg c15] at H
          have c15b0 : (a0_1 == 0) = false := beq_eq_false_iff_ne.mpr c15
          have c15b1 : (a0_1 != 0) = true := bne_iff_ne.mpr c15
          (first | rw [c15b0] | (simp only [i64_w, i32_w]; rw [c15b0]) | skip)
          replace H := Option.bind_eq_some_iff.mp H
          obtain ⟨t124, A160, H⟩ := H
          replace H : ((some (([(⟨#[115, 101, 115, 115, 105, 111, 110]⟩ : ByteArray), t124] : List ByteArray) : List ByteArray)).bind fun y125 => (if x3_1.length + y125.length < 8796093022208 then (cachepot_Tell.j1 kj1 (x3_1 ++ y125) a0_0 a0_1 a0_2 a0_3 l0_4 l0_5 l0_6) else (none))) = some r := H
          have A16 := Aside0.mk A160
          clear A160
          obtain ⟨y125, hy125⟩ : ∃ y_ : List ByteArray, y_ = (([(⟨#[115, 101, 115, 115, 105, 111, 110]⟩ : ByteArray), t124] : List ByteArray)) := ⟨_, rfl⟩
          replace H : (if x3_1.length + y125.length < 8796093022208 then (cachepot_Tell.j1 kj1 (x3_1 ++ y125) a0_0 a0_1 a0_2 a0_3 l0_4 l0_5 l0_6) else (none)) = some r := by first | (rw [hy125]; with_reducible exact H) | (have H2_ := (Option.bind_some _ _).symm.trans H; rw [hy125]; with_reducible exact H2_) | (have H2_ := (Option.bind_some _ _).symm.trans H; with_reducible exact H2_) | with_reducible exact H | (rw [hy125]; exact H) | exact H
          have Ny125 := Aside0.mk hy125
          clear hy125
          by_cases c17 : x3_1.length + y125.length < 8796093022208
          · rw [if_pos c17] at H
            have LMc17 := Aside0.mk c17
            clear c17
            obtain ⟨y128, hy128⟩ : ∃ y_ : List ByteArray, y_ = (x3_1 ++ y125) := ⟨_, rfl⟩
            replace H : (cachepot_Tell.j1 kj1 y128 a0_0 a0_1 a0_2 a0_3 l0_4 l0_5 l0_6) = some r := by first | (rw [hy128]; with_reducible exact H) | (have H2_ := (Option.bind_some _ _).symm.trans H; rw [hy128]; with_reducible exact H2_) | (have H2_ := (Option.bind_some _ _).symm.trans H; with_reducible exact H2_) | with_reducible exact H | (rw [hy128]; exact H) | exact H
            have Ny128 := Aside0.mk hy128
            clear hy128
            have H' := Aside0.mk H
            clear H
            have hcz18_0 : wc.cell? ⟨gb116, 0, none⟩ = some (.int .i64 a0_0) := (blk_cell BK116.out 0).trans rfl
            have hcz18_1 : wc.cell? ⟨gb116, 1, none⟩ = some (.int .i64 a0_1) := (blk_cell BK116.out 1).trans rfl
            have hcz18_2 : wc.cell? ⟨gb116, 2, none⟩ = some (.int .u32 a0_2) := (blk_cell BK116.out 2).trans rfl
            have hcz18_3 : wc.cell? ⟨gb116, 3, none⟩ = some (.int .i64 a0_3) := (blk_cell BK116.out 3).trans rfl
            have hcz18_4 : wc.cell? ⟨gb116, 4, none⟩ = some (.slice A0_4 l0_4.length c0_4) := (blk_cell BK116.out 4).trans rfl
            have hcz18_5 : wc.cell? ⟨gb116, 5, none⟩ = some (.slice A0_5 l0_5.length c0_5) := (blk_cell BK116.out 5).trans rfl
            have hcz18_6 : wc.cell? ⟨gb116, 6, none⟩ = some (.slice A0_6 l0_6.length c0_6) := (blk_cell BK116.out 6).trans rfl
            have hfz18_0 := blk_frozen BK116.out 0
            have hfz18_1 := blk_frozen BK116.out 1
            have hfz18_2 := blk_frozen BK116.out 2
            have hfz18_3 := blk_frozen BK116.out 3
            have hfz18_4 := blk_frozen BK116.out 4
            have hfz18_5 := blk_frozen BK116.out 5
            have hfz18_6 := blk_frozen BK116.out 6
            go_wp2_with (first | ((with_reducible refine gate_callee (f := 9) rfl ?_); refine goesL_ (some 24) rfl rfl Tryz.func9 (by kernel_rfl) rfl #[.int .i64 a0_1] rfl (by (try simp only [List.map_toArray, List.map_cons, List.map_nil]); first | done | rfl | (simp only [List.length_drop, List.length_take]; rfl)) ?_; (with_reducible refine (strconv_Itoa.calls a0_1 t124 _ A16.out (by first | exact hT | (refine Tabs.below hT ?_; (repeat (first | (with_reducible first | exact HB.out | exact Below.refl _ _ | apply below_alloc | apply pw_below_drewN | apply below_drew1) | exact HB.out))))).mono ?_); rintro e w19 ⟨rfl, hb⟩; refine ⟨_, rfl, ?_⟩; have n0_ := Aside0.mk (Kd.R_below (by (with_reducible repeat (first | apply Kd.R_alloc | apply Kd.R_drewN | apply Kd.R_drew)); exact HO_3.out) hb); have n1_ := Aside0.mk (blk_below (g := gb116) (o := .cells #[.int .i64 a0_0, .int .i64 a0_1, .int .u32 a0_2, .int .i64 a0_3, .slice A0_4 l0_4.length c0_4, .slice A0_5 l0_5.length c0_5, .slice A0_6 l0_6.length c0_6] 27 (0, 0)) (by (with_reducible repeat (first | refine blk_drewN ?_ _ | refine blk_drew ?_ | refine blk_alloc ?_ _)); exact BK116.out) hb); have n2_ := Aside0.mk (below_step (by repeat (first | (with_reducible first | exact HB.out | apply below_alloc | apply pw_below_drewN | apply below_drew1 | refine below_set ?_ GE116.out) | exact HB.out)) hb); clear HO_3; clear BK116; clear HB; have HO_3 := n0_; have BK116 := n1_; have HB := n2_; clear n0_ n1_ n2_; (try clear hb); (try clear hb2); (try clear hk); (try clear hi)) | ((with_reducible refine gate_dst (N := 25) rfl ?_); refine Kd.R_lit Kd.string _ 9 ?hg (N := 25) ?hd (xs := ([(⟨#[115, 101, 115, 115, 105, 111, 110]⟩ : ByteArray), t124] : List ByteArray)) (inner := [.string (⟨#[115, 101, 115, 115, 105, 111, 110]⟩ : ByteArray), .string t124]) (ok := fun _ => True) (okp := fun _ => True) ?hr ?hp (fun _ hk => hk) trivial (Below.refl _ _) (Nat.le_refl _) (by simp) ?_; (case hd => rfl); (case hg => rfl); (case hr => first | (go_simp; done) | (go_simp; rfl)); (case hp => exact (Reps.one (show Kd.M Kd.string _ _ _ (⟨#[115, 101, 115, 115, 105, 111, 110]⟩ : ByteArray) [.string (⟨#[115, 101, 115, 115, 105, 111, 110]⟩ : ByteArray)] from rfl) (Reps.one (show Kd.M Kd.string _ _ _ t124 [.string t124] from rfl) (Reps.none _ _)))); intro v126 w20 ho21 hb hg_ hnew_; clear hg_ hnew_; (first | rw [← Ny125.out] at ho21 | (simp only [Int.reduceToNat] at ho21; rw [← Ny125.out] at ho21)); have n0_ := Aside0.mk (Kd.R_elder' (by (with_reducible repeat (first | apply Kd.R_alloc | apply Kd.R_drewN | apply Kd.R_drew)); exact HO_3.out) (Kd.R_base ho21) hb); have n1_ := Aside0.mk (Kd.R_lower (Kd.R_new' ho21 (Kd.R_lt (by (with_reducible repeat (first | apply Kd.R_alloc | apply Kd.R_drewN | apply Kd.R_drew)); exact HO_3.out))) (below_size (by repeat (first | (with_reducible first | exact HB.out | apply below_alloc | apply pw_below_drewN | apply below_drew1 | refine below_set ?_ GE116.out) | exact HB.out)))); have n2_ := Aside0.mk (blk_below (g := gb116) (o := .cells #[.int .i64 a0_0, .int .i64 a0_1, .int .u32 a0_2, .int .i64 a0_3, .slice A0_4 l0_4.length c0_4, .slice A0_5 l0_5.length c0_5, .slice A0_6 l0_6.length c0_6] 27 (0, 0)) (by (with_reducible repeat (first | refine blk_drewN ?_ _ | refine blk_drew ?_ | refine blk_alloc ?_ _)); exact BK116.out) hb); have n3_ := Aside0.mk (below_step (by repeat (first | (with_reducible first | exact HB.out | apply below_alloc | apply pw_below_drewN | apply below_drew1 | refine below_set ?_ GE116.out) | exact HB.out)) hb); clear HO_3; clear BK116; clear HB; have HO_3 := n0_; have HO127 := n1_; have BK116 := n2_; have HB := n3_; clear n0_ n1_ n2_ n3_; clear hb ho21; obtain ⟨Ao23, co23, eo23⟩ := Kd.R_slice HO127.out; subst eo23) | ((with_reducible refine gate_builtin (b := .append) (xs := #[.tmp 21, .tmp 25]) rfl ?_); at_builtin; refine Kd.R_append_rows Kd.string (w0 := w) w.heap.size rfl (.tmp 21) (.tmp 25) 25 9 (.string ⟨#[]⟩) 16 rfl Tryz.underlying25 info9 rfl (by decide) (by omega) u3 x3_1 y125 _ _ _ (fun k_ => some k_ ≠ (.slice Ao23 y125.length co23 : Value).ownBlock) (fun _ => False) rfl rfl ?aO ?aR (fun _ _ h => h) (fun _ h => h.elim) ?aF ?aB ?aS ?aL ?_; (case aR => repeat (first | exact (Kd.R_reads' HO127.out).2.2 | (with_reducible refine Kd.C_alloc ?_ _) | (with_reducible refine Kd.C_drewN ?_ _) | (with_reducible refine Kd.C_drew ?_))); (case aB => exact (by repeat (first | (with_reducible first | exact HB.out | apply below_alloc | apply pw_below_drewN | apply below_drew1 | refine below_set ?_ GE116.out) | exact HB.out))); (case aF => exact (fun k_ hk => Kd.fresh' (Kd.R_lt (by (with_reducible repeat (first | apply Kd.R_alloc | apply Kd.R_drewN | apply Kd.R_drew)); exact HO127.out)) k_ hk)); (case aO => exact (by (with_reducible repeat (first | apply Kd.R_alloc | apply Kd.R_drewN | apply Kd.R_drew)); exact Kd.R_mono HO_3.out (fun _ hk => hk.2))); (case aS => exact (below_size (by repeat (first | (with_reducible first | exact HB.out | apply below_alloc | apply pw_below_drewN | apply below_drew1 | refine below_set ?_ GE116.out) | exact HB.out)))); (case aL => have := LMc17.out; omega); intro v129 w22 ho hb hg hat; rw [← Ny128.out] at ho; have n0_ := Aside0.mk (blk_grown (g := gb116) (o := .cells #[.int .i64 a0_0, .int .i64 a0_1, .int .u32 a0_2, .int .i64 a0_3, .slice A0_4 l0_4.length c0_4, .slice A0_5 l0_5.length c0_5, .slice A0_6 l0_6.length c0_6] 27 (0, 0)) (by (with_reducible repeat (first | refine blk_drewN ?_ _ | refine blk_drew ?_ | refine blk_alloc ?_ _)); exact BK116.out) hg (Kd.R_ne HO_3.out BK116.out (by decide))); have n1_ := Aside0.mk (Kd.R_after (ok := (fun _ => True)) (by (with_reducible repeat (first | apply Kd.R_alloc | apply Kd.R_drewN | apply Kd.R_drew)); exact HO127.out) hg hat); have n2_ := Aside0.mk (hb); have n3_ := Aside0.mk (ho); clear BK116; clear HO127; clear HB; clear HO_3; have BK116 := n0_; have HO127 := n1_; have HB := n2_; have HO130 := n3_; clear n0_ n1_ n2_ n3_; clear ho hb hg hat))
            go_meet
            case rel => exact ⟨_, (y128), H', ⟨by have := HJ1.out; first | omega | exact Nat.le_refl _⟩, ⟨by (with_reducible repeat (first | apply Kd.R_alloc | apply Kd.R_drewN | apply Kd.R_drew)); exact Kd.R_mono HO130.out (fun _ hk => trivial)⟩, ⟨by (with_reducible repeat (first | refine blk_drewN ?_ _ | refine blk_drew ?_ | refine blk_alloc ?_ _)); exact BK116.out⟩, ⟨by repeat (first | (with_reducible first | exact HB.out | apply below_alloc | apply pw_below_drewN | apply below_drew1 | refine below_set ?_ GE116.out) | exact HB.out)⟩⟩
          · rw [if_neg c17] at H
            exact absurd H (by simp)
      case rest =>
        clear HC13
        try clear c1
        try clear p2
        try clear c6
        try clear c7
        try clear c7b0
        try clear c7b1
        try clear c9
        try clear c15
        try clear c15b0
        try clear c15b1
        try clear c17
        try clear hcz14_0
        try clear hcz14_1
        try clear hcz14_2
        try clear hcz14_3
        try clear hcz14_4
        try clear hcz14_5
        try clear hcz14_6
        try clear hcz18_0
        try clear hcz18_1
        try clear hcz18_2
        try clear hcz18_3
        try clear hcz18_4
        try clear hcz18_5
        try clear hcz18_6
        try clear hcz6_0
        try clear hcz6_1
        try clear hcz6_2
        try clear hcz6_3
        try clear hcz6_4
        try clear hcz6_5
        try clear hcz6_6
        try clear hcz9_0
        try clear hcz9_1
        try clear hcz9_2
        try clear hcz9_3
        try clear hcz9_4
        try clear hcz9_5
        try clear hcz9_6
        try clear hfz14_0
        try clear hfz14_1
        try clear hfz14_2
        try clear hfz14_3
        try clear hfz14_4
        try clear hfz14_5
        try clear hfz14_6
        try clear hfz18_0
        try clear hfz18_1
        try clear hfz18_2
        try clear hfz18_3
        try clear hfz18_4
        try clear hfz18_5
        try clear hfz18_6
        try clear hfz6_0
        try clear hfz6_1
        try clear hfz6_2
        try clear hfz6_3
        try clear hfz6_4
        try clear hfz6_5
        try clear hfz6_6
        try clear hfz9_0
        try clear hfz9_1
        try clear hfz9_2
        try clear hfz9_3
        try clear hfz9_4
        try clear hfz9_5
        try clear hfz9_6
        try clear p2
        obtain ⟨kq, x3_12, HA, HJ12, HO_3, BK116, HB⟩ := hcut
        cases kq with
        | zero => exact absurd HA.out (by simp [cachepot_Tell.j1])
        | succ kj12 =>
          have H := HA.out
          clear HA
          simp only [cachepot_Tell.j1] at H
          have HC24 := Aside0.mk H
          clear H
          have hcz25_0 : wc.cell? ⟨gb116, 0, none⟩ = some (.int .i64 a0_0) := (blk_cell BK116.out 0).trans rfl
          have hcz25_1 : wc.cell? ⟨gb116, 1, none⟩ = some (.int .i64 a0_1) := (blk_cell BK116.out 1).trans rfl
          have hcz25_2 : wc.cell? ⟨gb116, 2, none⟩ = some (.int .u32 a0_2) := (blk_cell BK116.out 2).trans rfl
          have hcz25_3 : wc.cell? ⟨gb116, 3, none⟩ = some (.int .i64 a0_3) := (blk_cell BK116.out 3).trans rfl
          have hcz25_4 : wc.cell? ⟨gb116, 4, none⟩ = some (.slice A0_4 l0_4.length c0_4) := (blk_cell BK116.out 4).trans rfl
          have hcz25_5 : wc.cell? ⟨gb116, 5, none⟩ = some (.slice A0_5 l0_5.length c0_5) := (blk_cell BK116.out 5).trans rfl
          have hcz25_6 : wc.cell? ⟨gb116, 6, none⟩ = some (.slice A0_6 l0_6.length c0_6) := (blk_cell BK116.out 6).trans rfl
          have hfz25_0 := blk_frozen BK116.out 0
          have hfz25_1 := blk_frozen BK116.out 1
          have hfz25_2 := blk_frozen BK116.out 2
          have hfz25_3 := blk_frozen BK116.out 3
          have hfz25_4 := blk_frozen BK116.out 4
          have hfz25_5 := blk_frozen BK116.out 5
          have hfz25_6 := blk_frozen BK116.out 6
          go_upto_if 29 with (fail)
          go_cut [3] (fun v3 wc => ∃ (kq : Nat) (x3_23 : List ByteArray), Aside0 (cachepot_Tell.j2 kq x3_23 a0_0 a0_1 a0_2 a0_3 l0_4 l0_5 l0_6 = some r) ∧ Aside0 (kq ≤ kj12) ∧ Aside0 (Kd.R Kd.string 9 wc w.heap.size (fun _ => True) v3 x3_23) ∧ Aside0 (wc.heap[gb116]? = some (.cells #[.int .i64 a0_0, .int .i64 a0_1, .int .u32 a0_2, .int .i64 a0_3, (.slice A0_4 l0_4.length c0_4), (.slice A0_5 l0_5.length c0_5), (.slice A0_6 l0_6.length c0_6)] 27 (0, 0))) ∧ Aside0 (Below w.heap.size w wc))
          case first =>
            have H := HC24.out
            clear HC24
            by_cases c26 : a0_2 = 0
            · rw [if_pos c26] at H
              have c26b0 : (a0_2 == 0) = true := beq_iff_eq.mpr c26
              have c26b1 : (a0_2 != 0) = false := bne_eq_false_iff_eq.mpr c26
              clear c26
              (first | rw [c26b0] | (simp only [i64_w, i32_w]; rw [c26b0]) | skip)
              have H' := Aside0.mk H
              clear H
              go_wp2
              go_meet
              case rel => exact ⟨_, (x3_12), H', ⟨by have := HJ1.out; have := HJ12.out; first | omega | exact Nat.le_refl _⟩, ⟨by (with_reducible repeat (first | apply Kd.R_alloc | apply Kd.R_drewN | apply Kd.R_drew)); exact HO_3.out⟩, ⟨by (with_reducible repeat (first | refine blk_drewN ?_ _ | refine blk_drew ?_ | refine blk_alloc ?_ _)); exact BK116.out⟩, ⟨by repeat (first | (with_reducible first | exact HB.out | apply below_alloc | apply pw_below_drewN | apply below_drew1 | refine below_set ?_ GE116.out) | exact HB.out)⟩⟩
            · rw [if_neg c26] at H
              have c26b0 : (a0_2 == 0) = false := beq_eq_false_iff_ne.mpr c26
              have c26b1 : (a0_2 != 0) = true := bne_iff_ne.mpr c26
              (first | rw [c26b0] | (simp only [i64_w, i32_w]; rw [c26b0]) | skip)
              replace H := Option.bind_eq_some_iff.mp H
              obtain ⟨t131, A270, H⟩ := H
              replace H : ((some (([(⟨#[115, 101, 113]⟩ : ByteArray), t131] : List ByteArray) : List ByteArray)).bind fun y132 => (if x3_12.length + y132.length < 8796093022208 then (cachepot_Tell.j2 kj12 (x3_12 ++ y132) a0_0 a0_1 a0_2 a0_3 l0_4 l0_5 l0_6) else (none))) = some r := H
              have A27 := Aside0.mk A270
              clear A270
              obtain ⟨y132, hy132⟩ : ∃ y_ : List ByteArray, y_ = (([(⟨#[115, 101, 113]⟩ : ByteArray), t131] : List ByteArray)) := ⟨_, rfl⟩
              replace H : (if x3_12.length + y132.length < 8796093022208 then (cachepot_Tell.j2 kj12 (x3_12 ++ y132) a0_0 a0_1 a0_2 a0_3 l0_4 l0_5 l0_6) else (none)) = some r := by first | (rw [hy132]; with_reducible exact H) | (have H2_ := (Option.bind_some _ _).symm.trans H; rw [hy132]; with_reducible exact H2_) | (have H2_ := (Option.bind_some _ _).symm.trans H; with_reducible exact H2_) | with_reducible exact H | (rw [hy132]; exact H) | exact H
              have Ny132 := Aside0.mk hy132
              clear hy132
              by_cases c28 : x3_12.length + y132.length < 8796093022208
              · rw [if_pos c28] at H
                have LMc28 := Aside0.mk c28
                clear c28
                obtain ⟨y135, hy135⟩ : ∃ y_ : List ByteArray, y_ = (x3_12 ++ y132) := ⟨_, rfl⟩
                replace H : (cachepot_Tell.j2 kj12 y135 a0_0 a0_1 a0_2 a0_3 l0_4 l0_5 l0_6) = some r := by first | (rw [hy135]; with_reducible exact H) | (have H2_ := (Option.bind_some _ _).symm.trans H; rw [hy135]; with_reducible exact H2_) | (have H2_ := (Option.bind_some _ _).symm.trans H; with_reducible exact H2_) | with_reducible exact H | (rw [hy135]; exact H) | exact H
                have Ny135 := Aside0.mk hy135
                clear hy135
                have H' := Aside0.mk H
                clear H
                have hcz29_0 : wc.cell? ⟨gb116, 0, none⟩ = some (.int .i64 a0_0) := (blk_cell BK116.out 0).trans rfl
                have hcz29_1 : wc.cell? ⟨gb116, 1, none⟩ = some (.int .i64 a0_1) := (blk_cell BK116.out 1).trans rfl
                have hcz29_2 : wc.cell? ⟨gb116, 2, none⟩ = some (.int .u32 a0_2) := (blk_cell BK116.out 2).trans rfl
                have hcz29_3 : wc.cell? ⟨gb116, 3, none⟩ = some (.int .i64 a0_3) := (blk_cell BK116.out 3).trans rfl
                have hcz29_4 : wc.cell? ⟨gb116, 4, none⟩ = some (.slice A0_4 l0_4.length c0_4) := (blk_cell BK116.out 4).trans rfl
                have hcz29_5 : wc.cell? ⟨gb116, 5, none⟩ = some (.slice A0_5 l0_5.length c0_5) := (blk_cell BK116.out 5).trans rfl
                have hcz29_6 : wc.cell? ⟨gb116, 6, none⟩ = some (.slice A0_6 l0_6.length c0_6) := (blk_cell BK116.out 6).trans rfl
                have hfz29_0 := blk_frozen BK116.out 0
                have hfz29_1 := blk_frozen BK116.out 1
                have hfz29_2 := blk_frozen BK116.out 2
                have hfz29_3 := blk_frozen BK116.out 3
                have hfz29_4 := blk_frozen BK116.out 4
                have hfz29_5 := blk_frozen BK116.out 5
                have hfz29_6 := blk_frozen BK116.out 6
                go_wp2_with (first | ((with_reducible refine gate_callee (f := 10) rfl ?_); refine goesL_ (some 33) rfl rfl Tryz.func10 (by kernel_rfl) rfl #[.int .u32 a0_2] rfl (by (try simp only [List.map_toArray, List.map_cons, List.map_nil]); first | done | rfl | (simp only [List.length_drop, List.length_take]; rfl)) ?_; (with_reducible refine (cachepot_decimal.calls a0_2 t131 _ A27.out (by first | exact hT | (refine Tabs.below hT ?_; (repeat (first | (with_reducible first | exact HB.out | exact Below.refl _ _ | apply below_alloc | apply pw_below_drewN | apply below_drew1) | exact HB.out))))).mono ?_); rintro e w30 ⟨rfl, hb⟩; refine ⟨_, rfl, ?_⟩; have n0_ := Aside0.mk (Kd.R_below (by (with_reducible repeat (first | apply Kd.R_alloc | apply Kd.R_drewN | apply Kd.R_drew)); exact HO_3.out) hb); have n1_ := Aside0.mk (blk_below (g := gb116) (o := .cells #[.int .i64 a0_0, .int .i64 a0_1, .int .u32 a0_2, .int .i64 a0_3, .slice A0_4 l0_4.length c0_4, .slice A0_5 l0_5.length c0_5, .slice A0_6 l0_6.length c0_6] 27 (0, 0)) (by (with_reducible repeat (first | refine blk_drewN ?_ _ | refine blk_drew ?_ | refine blk_alloc ?_ _)); exact BK116.out) hb); have n2_ := Aside0.mk (below_step (by repeat (first | (with_reducible first | exact HB.out | apply below_alloc | apply pw_below_drewN | apply below_drew1 | refine below_set ?_ GE116.out) | exact HB.out)) hb); clear HO_3; clear BK116; clear HB; have HO_3 := n0_; have BK116 := n1_; have HB := n2_; clear n0_ n1_ n2_; (try clear hb); (try clear hb2); (try clear hk); (try clear hi)) | ((with_reducible refine gate_dst (N := 34) rfl ?_); refine Kd.R_lit Kd.string _ 9 ?hg (N := 34) ?hd (xs := ([(⟨#[115, 101, 113]⟩ : ByteArray), t131] : List ByteArray)) (inner := [.string (⟨#[115, 101, 113]⟩ : ByteArray), .string t131]) (ok := fun _ => True) (okp := fun _ => True) ?hr ?hp (fun _ hk => hk) trivial (Below.refl _ _) (Nat.le_refl _) (by simp) ?_; (case hd => rfl); (case hg => rfl); (case hr => first | (go_simp; done) | (go_simp; rfl)); (case hp => exact (Reps.one (show Kd.M Kd.string _ _ _ (⟨#[115, 101, 113]⟩ : ByteArray) [.string (⟨#[115, 101, 113]⟩ : ByteArray)] from rfl) (Reps.one (show Kd.M Kd.string _ _ _ t131 [.string t131] from rfl) (Reps.none _ _)))); intro v133 w31 ho32 hb hg_ hnew_; clear hg_ hnew_; (first | rw [← Ny132.out] at ho32 | (simp only [Int.reduceToNat] at ho32; rw [← Ny132.out] at ho32)); have n0_ := Aside0.mk (Kd.R_elder' (by (with_reducible repeat (first | apply Kd.R_alloc | apply Kd.R_drewN | apply Kd.R_drew)); exact HO_3.out) (Kd.R_base ho32) hb); have n1_ := Aside0.mk (Kd.R_lower (Kd.R_new' ho32 (Kd.R_lt (by (with_reducible repeat (first | apply Kd.R_alloc | apply Kd.R_drewN | apply Kd.R_drew)); exact HO_3.out))) (below_size (by repeat (first | (with_reducible first | exact HB.out | apply below_alloc | apply pw_below_drewN | apply below_drew1 | refine below_set ?_ GE116.out) | exact HB.out)))); have n2_ := Aside0.mk (blk_below (g := gb116) (o := .cells #[.int .i64 a0_0, .int .i64 a0_1, .int .u32 a0_2, .int .i64 a0_3, .slice A0_4 l0_4.length c0_4, .slice A0_5 l0_5.length c0_5, .slice A0_6 l0_6.length c0_6] 27 (0, 0)) (by (with_reducible repeat (first | refine blk_drewN ?_ _ | refine blk_drew ?_ | refine blk_alloc ?_ _)); exact BK116.out) hb); have n3_ := Aside0.mk (below_step (by repeat (first | (with_reducible first | exact HB.out | apply below_alloc | apply pw_below_drewN | apply below_drew1 | refine below_set ?_ GE116.out) | exact HB.out)) hb); clear HO_3; clear BK116; clear HB; have HO_3 := n0_; have HO134 := n1_; have BK116 := n2_; have HB := n3_; clear n0_ n1_ n2_ n3_; clear hb ho32; obtain ⟨Ao34, co34, eo34⟩ := Kd.R_slice HO134.out; subst eo34) | ((with_reducible refine gate_builtin (b := .append) (xs := #[.tmp 30, .tmp 34]) rfl ?_); at_builtin; refine Kd.R_append_rows Kd.string (w0 := w) w.heap.size rfl (.tmp 30) (.tmp 34) 25 9 (.string ⟨#[]⟩) 16 rfl Tryz.underlying25 info9 rfl (by decide) (by omega) u3 x3_12 y132 _ _ _ (fun k_ => some k_ ≠ (.slice Ao34 y132.length co34 : Value).ownBlock) (fun _ => False) rfl rfl ?aO ?aR (fun _ _ h => h) (fun _ h => h.elim) ?aF ?aB ?aS ?aL ?_; (case aR => repeat (first | exact (Kd.R_reads' HO134.out).2.2 | (with_reducible refine Kd.C_alloc ?_ _) | (with_reducible refine Kd.C_drewN ?_ _) | (with_reducible refine Kd.C_drew ?_))); (case aB => exact (by repeat (first | (with_reducible first | exact HB.out | apply below_alloc | apply pw_below_drewN | apply below_drew1 | refine below_set ?_ GE116.out) | exact HB.out))); (case aF => exact (fun k_ hk => Kd.fresh' (Kd.R_lt (by (with_reducible repeat (first | apply Kd.R_alloc | apply Kd.R_drewN | apply Kd.R_drew)); exact HO134.out)) k_ hk)); (case aO => exact (by (with_reducible repeat (first | apply Kd.R_alloc | apply Kd.R_drewN | apply Kd.R_drew)); exact Kd.R_mono HO_3.out (fun _ hk => hk.2))); (case aS => exact (below_size (by repeat (first | (with_reducible first | exact HB.out | apply below_alloc | apply pw_below_drewN | apply below_drew1 | refine below_set ?_ GE116.out) | exact HB.out)))); (case aL => have := LMc28.out; omega); intro v136 w33 ho hb hg hat; rw [← Ny135.out] at ho; have n0_ := Aside0.mk (blk_grown (g := gb116) (o := .cells #[.int .i64 a0_0, .int .i64 a0_1, .int .u32 a0_2, .int .i64 a0_3, .slice A0_4 l0_4.length c0_4, .slice A0_5 l0_5.length c0_5, .slice A0_6 l0_6.length c0_6] 27 (0, 0)) (by (with_reducible repeat (first | refine blk_drewN ?_ _ | refine blk_drew ?_ | refine blk_alloc ?_ _)); exact BK116.out) hg (Kd.R_ne HO_3.out BK116.out (by decide))); have n1_ := Aside0.mk (Kd.R_after (ok := (fun _ => True)) (by (with_reducible repeat (first | apply Kd.R_alloc | apply Kd.R_drewN | apply Kd.R_drew)); exact HO134.out) hg hat); have n2_ := Aside0.mk (hb); have n3_ := Aside0.mk (ho); clear BK116; clear HO134; clear HB; clear HO_3; have BK116 := n0_; have HO134 := n1_; have HB := n2_; have HO137 := n3_; clear n0_ n1_ n2_ n3_; clear ho hb hg hat))
                go_meet
                case rel => exact ⟨_, (y135), H', ⟨by have := HJ1.out; have := HJ12.out; first | omega | exact Nat.le_refl _⟩, ⟨by (with_reducible repeat (first | apply Kd.R_alloc | apply Kd.R_drewN | apply Kd.R_drew)); exact Kd.R_mono HO137.out (fun _ hk => trivial)⟩, ⟨by (with_reducible repeat (first | refine blk_drewN ?_ _ | refine blk_drew ?_ | refine blk_alloc ?_ _)); exact BK116.out⟩, ⟨by repeat (first | (with_reducible first | exact HB.out | apply below_alloc | apply pw_below_drewN | apply below_drew1 | refine below_set ?_ GE116.out) | exact HB.out)⟩⟩
              · rw [if_neg c28] at H
                exact absurd H (by simp)
          case rest =>
            clear HC24
            try clear c1
            try clear c2
            try clear p2
            try clear c6
            try clear c7
            try clear c7b0
            try clear c7b1
            try clear c9
            try clear c10
            try clear c15
            try clear c15b0
            try clear c15b1
            try clear c17
            try clear c26
            try clear c26b0
            try clear c26b1
            try clear c28
            try clear hcz14_0
            try clear hcz14_1
            try clear hcz14_2
            try clear hcz14_3
            try clear hcz14_4
            try clear hcz14_5
            try clear hcz14_6
            try clear hcz18_0
            try clear hcz18_1
            try clear hcz18_2
            try clear hcz18_3
            try clear hcz18_4
            try clear hcz18_5
            try clear hcz18_6
            try clear hcz25_0
            try clear hcz25_1
            try clear hcz25_2
            try clear hcz25_3
            try clear hcz25_4
            try clear hcz25_5
            try clear hcz25_6
            try clear hcz29_0
            try clear hcz29_1
            try clear hcz29_2
            try clear hcz29_3
            try clear hcz29_4
            try clear hcz29_5
            try clear hcz29_6
            try clear hcz6_0
            try clear hcz6_1
            try clear hcz6_2
            try clear hcz6_3
            try clear hcz6_4
            try clear hcz6_5
            try clear hcz6_6
            try clear hcz9_0
            try clear hcz9_1
            try clear hcz9_2
            try clear hcz9_3
            try clear hcz9_4
            try clear hcz9_5
            try clear hcz9_6
            try clear hfz14_0
            try clear hfz14_1
            try clear hfz14_2
            try clear hfz14_3
            try clear hfz14_4
            try clear hfz14_5
            try clear hfz14_6
            try clear hfz18_0
            try clear hfz18_1
            try clear hfz18_2
            try clear hfz18_3
            try clear hfz18_4
            try clear hfz18_5
            try clear hfz18_6
            try clear hfz25_0
            try clear hfz25_1
            try clear hfz25_2
            try clear hfz25_3
            try clear hfz25_4
            try clear hfz25_5
            try clear hfz25_6
            try clear hfz29_0
            try clear hfz29_1
            try clear hfz29_2
            try clear hfz29_3
            try clear hfz29_4
            try clear hfz29_5
            try clear hfz29_6
            try clear hfz6_0
            try clear hfz6_1
            try clear hfz6_2
            try clear hfz6_3
            try clear hfz6_4
            try clear hfz6_5
            try clear hfz6_6
            try clear hfz9_0
            try clear hfz9_1
            try clear hfz9_2
            try clear hfz9_3
            try clear hfz9_4
            try clear hfz9_5
            try clear hfz9_6
            try clear p2
            obtain ⟨kq, x3_23, HA, HJ23, HO_3, BK116, HB⟩ := hcut
            cases kq with
            | zero => exact absurd HA.out (by simp [cachepot_Tell.j2])
            | succ kj23 =>
              have H := HA.out
              clear HA
              simp only [cachepot_Tell.j2] at H
              have HC35 := Aside0.mk H
              clear H
              have hcz36_0 : wc.cell? ⟨gb116, 0, none⟩ = some (.int .i64 a0_0) := (blk_cell BK116.out 0).trans rfl
              have hcz36_1 : wc.cell? ⟨gb116, 1, none⟩ = some (.int .i64 a0_1) := (blk_cell BK116.out 1).trans rfl
              have hcz36_2 : wc.cell? ⟨gb116, 2, none⟩ = some (.int .u32 a0_2) := (blk_cell BK116.out 2).trans rfl
              have hcz36_3 : wc.cell? ⟨gb116, 3, none⟩ = some (.int .i64 a0_3) := (blk_cell BK116.out 3).trans rfl
              have hcz36_4 : wc.cell? ⟨gb116, 4, none⟩ = some (.slice A0_4 l0_4.length c0_4) := (blk_cell BK116.out 4).trans rfl
              have hcz36_5 : wc.cell? ⟨gb116, 5, none⟩ = some (.slice A0_5 l0_5.length c0_5) := (blk_cell BK116.out 5).trans rfl
              have hcz36_6 : wc.cell? ⟨gb116, 6, none⟩ = some (.slice A0_6 l0_6.length c0_6) := (blk_cell BK116.out 6).trans rfl
              have hfz36_0 := blk_frozen BK116.out 0
              have hfz36_1 := blk_frozen BK116.out 1
              have hfz36_2 := blk_frozen BK116.out 2
              have hfz36_3 := blk_frozen BK116.out 3
              have hfz36_4 := blk_frozen BK116.out 4
              have hfz36_5 := blk_frozen BK116.out 5
              have hfz36_6 := blk_frozen BK116.out 6
              go_upto_if 38 with (fail)
              go_cut [3] (fun v3 wc => ∃ (kq : Nat) (x3_34 : List ByteArray), Aside0 (cachepot_Tell.j3 kq x3_34 a0_0 a0_1 a0_2 a0_3 l0_4 l0_5 l0_6 = some r) ∧ Aside0 (kq ≤ kj23) ∧ Aside0 (Kd.R Kd.string 9 wc w.heap.size (fun _ => True) v3 x3_34) ∧ Aside0 (wc.heap[gb116]? = some (.cells #[.int .i64 a0_0, .int .i64 a0_1, .int .u32 a0_2, .int .i64 a0_3, (.slice A0_4 l0_4.length c0_4), (.slice A0_5 l0_5.length c0_5), (.slice A0_6 l0_6.length c0_6)] 27 (0, 0))) ∧ Aside0 (Below w.heap.size w wc))
              case first =>
                have H := HC35.out
                clear HC35
                by_cases c37 : a0_3 = 0
                · rw [if_pos c37] at H
                  have c37b0 : (a0_3 == 0) = true := beq_iff_eq.mpr c37
                  have c37b1 : (a0_3 != 0) = false := bne_eq_false_iff_eq.mpr c37
                  clear c37
                  (first | rw [c37b0] | (simp only [i64_w, i32_w]; rw [c37b0]) | skip)
                  have H' := Aside0.mk H
                  clear H
                  go_wp2
                  go_meet
                  case rel => exact ⟨_, (x3_23), H', ⟨by have := HJ1.out; have := HJ12.out; have := HJ23.out; first | omega | exact Nat.le_refl _⟩, ⟨by (with_reducible repeat (first | apply Kd.R_alloc | apply Kd.R_drewN | apply Kd.R_drew)); exact HO_3.out⟩, ⟨by (with_reducible repeat (first | refine blk_drewN ?_ _ | refine blk_drew ?_ | refine blk_alloc ?_ _)); exact BK116.out⟩, ⟨by repeat (first | (with_reducible first | exact HB.out | apply below_alloc | apply pw_below_drewN | apply below_drew1 | refine below_set ?_ GE116.out) | exact HB.out)⟩⟩
                · rw [if_neg c37] at H
                  have c37b0 : (a0_3 == 0) = false := beq_eq_false_iff_ne.mpr c37
                  have c37b1 : (a0_3 != 0) = true := bne_iff_ne.mpr c37
                  (first | rw [c37b0] | (simp only [i64_w, i32_w]; rw [c37b0]) | skip)
                  replace H := Option.bind_eq_some_iff.mp H
                  obtain ⟨t138, A380, H⟩ := H
                  replace H : ((some (([(⟨#[110]⟩ : ByteArray), t138] : List ByteArray) : List ByteArray)).bind fun y139 => (if x3_23.length + y139.length < 8796093022208 then (cachepot_Tell.j3 kj23 (x3_23 ++ y139) a0_0 a0_1 a0_2 a0_3 l0_4 l0_5 l0_6) else (none))) = some r := H
                  have A38 := Aside0.mk A380
                  clear A380
                  obtain ⟨y139, hy139⟩ : ∃ y_ : List ByteArray, y_ = (([(⟨#[110]⟩ : ByteArray), t138] : List ByteArray)) := ⟨_, rfl⟩
                  replace H : (if x3_23.length + y139.length < 8796093022208 then (cachepot_Tell.j3 kj23 (x3_23 ++ y139) a0_0 a0_1 a0_2 a0_3 l0_4 l0_5 l0_6) else (none)) = some r := by first | (rw [hy139]; with_reducible exact H) | (have H2_ := (Option.bind_some _ _).symm.trans H; rw [hy139]; with_reducible exact H2_) | (have H2_ := (Option.bind_some _ _).symm.trans H; with_reducible exact H2_) | with_reducible exact H | (rw [hy139]; exact H) | exact H
                  have Ny139 := Aside0.mk hy139
                  clear hy139
                  by_cases c39 : x3_23.length + y139.length < 8796093022208
                  · rw [if_pos c39] at H
                    have LMc39 := Aside0.mk c39
                    clear c39
                    obtain ⟨y142, hy142⟩ : ∃ y_ : List ByteArray, y_ = (x3_23 ++ y139) := ⟨_, rfl⟩
                    replace H : (cachepot_Tell.j3 kj23 y142 a0_0 a0_1 a0_2 a0_3 l0_4 l0_5 l0_6) = some r := by first | (rw [hy142]; with_reducible exact H) | (have H2_ := (Option.bind_some _ _).symm.trans H; rw [hy142]; with_reducible exact H2_) | (have H2_ := (Option.bind_some _ _).symm.trans H; with_reducible exact H2_) | with_reducible exact H | (rw [hy142]; exact H) | exact H
                    have Ny142 := Aside0.mk hy142
                    clear hy142
                    have H' := Aside0.mk H
                    clear H
                    have hcz40_0 : wc.cell? ⟨gb116, 0, none⟩ = some (.int .i64 a0_0) := (blk_cell BK116.out 0).trans rfl
                    have hcz40_1 : wc.cell? ⟨gb116, 1, none⟩ = some (.int .i64 a0_1) := (blk_cell BK116.out 1).trans rfl
                    have hcz40_2 : wc.cell? ⟨gb116, 2, none⟩ = some (.int .u32 a0_2) := (blk_cell BK116.out 2).trans rfl
                    have hcz40_3 : wc.cell? ⟨gb116, 3, none⟩ = some (.int .i64 a0_3) := (blk_cell BK116.out 3).trans rfl
                    have hcz40_4 : wc.cell? ⟨gb116, 4, none⟩ = some (.slice A0_4 l0_4.length c0_4) := (blk_cell BK116.out 4).trans rfl
                    have hcz40_5 : wc.cell? ⟨gb116, 5, none⟩ = some (.slice A0_5 l0_5.length c0_5) := (blk_cell BK116.out 5).trans rfl
                    have hcz40_6 : wc.cell? ⟨gb116, 6, none⟩ = some (.slice A0_6 l0_6.length c0_6) := (blk_cell BK116.out 6).trans rfl
                    have hfz40_0 := blk_frozen BK116.out 0
                    have hfz40_1 := blk_frozen BK116.out 1
                    have hfz40_2 := blk_frozen BK116.out 2
                    have hfz40_3 := blk_frozen BK116.out 3
                    have hfz40_4 := blk_frozen BK116.out 4
                    have hfz40_5 := blk_frozen BK116.out 5
                    have hfz40_6 := blk_frozen BK116.out 6
                    go_wp2_with (first | ((with_reducible refine gate_callee (f := 9) rfl ?_); refine goesL_ (some 42) rfl rfl Tryz.func9 (by kernel_rfl) rfl #[.int .i64 a0_3] rfl (by (try simp only [List.map_toArray, List.map_cons, List.map_nil]); first | done | rfl | (simp only [List.length_drop, List.length_take]; rfl)) ?_; (with_reducible refine (strconv_Itoa.calls a0_3 t138 _ A38.out (by first | exact hT | (refine Tabs.below hT ?_; (repeat (first | (with_reducible first | exact HB.out | exact Below.refl _ _ | apply below_alloc | apply pw_below_drewN | apply below_drew1) | exact HB.out))))).mono ?_); rintro e w41 ⟨rfl, hb⟩; refine ⟨_, rfl, ?_⟩; have n0_ := Aside0.mk (Kd.R_below (by (with_reducible repeat (first | apply Kd.R_alloc | apply Kd.R_drewN | apply Kd.R_drew)); exact HO_3.out) hb); have n1_ := Aside0.mk (blk_below (g := gb116) (o := .cells #[.int .i64 a0_0, .int .i64 a0_1, .int .u32 a0_2, .int .i64 a0_3, .slice A0_4 l0_4.length c0_4, .slice A0_5 l0_5.length c0_5, .slice A0_6 l0_6.length c0_6] 27 (0, 0)) (by (with_reducible repeat (first | refine blk_drewN ?_ _ | refine blk_drew ?_ | refine blk_alloc ?_ _)); exact BK116.out) hb); have n2_ := Aside0.mk (below_step (by repeat (first | (with_reducible first | exact HB.out | apply below_alloc | apply pw_below_drewN | apply below_drew1 | refine below_set ?_ GE116.out) | exact HB.out)) hb); clear HO_3; clear BK116; clear HB; have HO_3 := n0_; have BK116 := n1_; have HB := n2_; clear n0_ n1_ n2_; (try clear hb); (try clear hb2); (try clear hk); (try clear hi)) | ((with_reducible refine gate_dst (N := 43) rfl ?_); refine Kd.R_lit Kd.string _ 9 ?hg (N := 43) ?hd (xs := ([(⟨#[110]⟩ : ByteArray), t138] : List ByteArray)) (inner := [.string (⟨#[110]⟩ : ByteArray), .string t138]) (ok := fun _ => True) (okp := fun _ => True) ?hr ?hp (fun _ hk => hk) trivial (Below.refl _ _) (Nat.le_refl _) (by simp) ?_; (case hd => rfl); (case hg => rfl); (case hr => first | (go_simp; done) | (go_simp; rfl)); (case hp => exact (Reps.one (show Kd.M Kd.string _ _ _ (⟨#[110]⟩ : ByteArray) [.string (⟨#[110]⟩ : ByteArray)] from rfl) (Reps.one (show Kd.M Kd.string _ _ _ t138 [.string t138] from rfl) (Reps.none _ _)))); intro v140 w42 ho43 hb hg_ hnew_; clear hg_ hnew_; (first | rw [← Ny139.out] at ho43 | (simp only [Int.reduceToNat] at ho43; rw [← Ny139.out] at ho43)); have n0_ := Aside0.mk (Kd.R_elder' (by (with_reducible repeat (first | apply Kd.R_alloc | apply Kd.R_drewN | apply Kd.R_drew)); exact HO_3.out) (Kd.R_base ho43) hb); have n1_ := Aside0.mk (Kd.R_lower (Kd.R_new' ho43 (Kd.R_lt (by (with_reducible repeat (first | apply Kd.R_alloc | apply Kd.R_drewN | apply Kd.R_drew)); exact HO_3.out))) (below_size (by repeat (first | (with_reducible first | exact HB.out | apply below_alloc | apply pw_below_drewN | apply below_drew1 | refine below_set ?_ GE116.out) | exact HB.out)))); have n2_ := Aside0.mk (blk_below (g := gb116) (o := .cells #[.int .i64 a0_0, .int .i64 a0_1, .int .u32 a0_2, .int .i64 a0_3, .slice A0_4 l0_4.length c0_4, .slice A0_5 l0_5.length c0_5, .slice A0_6 l0_6.length c0_6] 27 (0, 0)) (by (with_reducible repeat (first | refine blk_drewN ?_ _ | refine blk_drew ?_ | refine blk_alloc ?_ _)); exact BK116.out) hb); have n3_ := Aside0.mk (below_step (by repeat (first | (with_reducible first | exact HB.out | apply below_alloc | apply pw_below_drewN | apply below_drew1 | refine below_set ?_ GE116.out) | exact HB.out)) hb); clear HO_3; clear BK116; clear HB; have HO_3 := n0_; have HO141 := n1_; have BK116 := n2_; have HB := n3_; clear n0_ n1_ n2_ n3_; clear hb ho43; obtain ⟨Ao45, co45, eo45⟩ := Kd.R_slice HO141.out; subst eo45) | ((with_reducible refine gate_builtin (b := .append) (xs := #[.tmp 39, .tmp 43]) rfl ?_); at_builtin; refine Kd.R_append_rows Kd.string (w0 := w) w.heap.size rfl (.tmp 39) (.tmp 43) 25 9 (.string ⟨#[]⟩) 16 rfl Tryz.underlying25 info9 rfl (by decide) (by omega) u3 x3_23 y139 _ _ _ (fun k_ => some k_ ≠ (.slice Ao45 y139.length co45 : Value).ownBlock) (fun _ => False) rfl rfl ?aO ?aR (fun _ _ h => h) (fun _ h => h.elim) ?aF ?aB ?aS ?aL ?_; (case aR => repeat (first | exact (Kd.R_reads' HO141.out).2.2 | (with_reducible refine Kd.C_alloc ?_ _) | (with_reducible refine Kd.C_drewN ?_ _) | (with_reducible refine Kd.C_drew ?_))); (case aB => exact (by repeat (first | (with_reducible first | exact HB.out | apply below_alloc | apply pw_below_drewN | apply below_drew1 | refine below_set ?_ GE116.out) | exact HB.out))); (case aF => exact (fun k_ hk => Kd.fresh' (Kd.R_lt (by (with_reducible repeat (first | apply Kd.R_alloc | apply Kd.R_drewN | apply Kd.R_drew)); exact HO141.out)) k_ hk)); (case aO => exact (by (with_reducible repeat (first | apply Kd.R_alloc | apply Kd.R_drewN | apply Kd.R_drew)); exact Kd.R_mono HO_3.out (fun _ hk => hk.2))); (case aS => exact (below_size (by repeat (first | (with_reducible first | exact HB.out | apply below_alloc | apply pw_below_drewN | apply below_drew1 | refine below_set ?_ GE116.out) | exact HB.out)))); (case aL => have := LMc39.out; omega); intro v143 w44 ho hb hg hat; rw [← Ny142.out] at ho; have n0_ := Aside0.mk (blk_grown (g := gb116) (o := .cells #[.int .i64 a0_0, .int .i64 a0_1, .int .u32 a0_2, .int .i64 a0_3, .slice A0_4 l0_4.length c0_4, .slice A0_5 l0_5.length c0_5, .slice A0_6 l0_6.length c0_6] 27 (0, 0)) (by (with_reducible repeat (first | refine blk_drewN ?_ _ | refine blk_drew ?_ | refine blk_alloc ?_ _)); exact BK116.out) hg (Kd.R_ne HO_3.out BK116.out (by decide))); have n1_ := Aside0.mk (Kd.R_after (ok := (fun _ => True)) (by (with_reducible repeat (first | apply Kd.R_alloc | apply Kd.R_drewN | apply Kd.R_drew)); exact HO141.out) hg hat); have n2_ := Aside0.mk (hb); have n3_ := Aside0.mk (ho); clear BK116; clear HO141; clear HB; clear HO_3; have BK116 := n0_; have HO141 := n1_; have HB := n2_; have HO144 := n3_; clear n0_ n1_ n2_ n3_; clear ho hb hg hat))
                    go_meet
                    case rel => exact ⟨_, (y142), H', ⟨by have := HJ1.out; have := HJ12.out; have := HJ23.out; first | omega | exact Nat.le_refl _⟩, ⟨by (with_reducible repeat (first | apply Kd.R_alloc | apply Kd.R_drewN | apply Kd.R_drew)); exact Kd.R_mono HO144.out (fun _ hk => trivial)⟩, ⟨by (with_reducible repeat (first | refine blk_drewN ?_ _ | refine blk_drew ?_ | refine blk_alloc ?_ _)); exact BK116.out⟩, ⟨by repeat (first | (with_reducible first | exact HB.out | apply below_alloc | apply pw_below_drewN | apply below_drew1 | refine below_set ?_ GE116.out) | exact HB.out)⟩⟩
                  · rw [if_neg c39] at H
                    exact absurd H (by simp)
              case rest =>
                clear HC35
                try clear c1
                try clear c2
                try clear p2
                try clear c3
                try clear c6
                try clear c7
                try clear c7b0
                try clear c7b1
                try clear c9
                try clear c10
                try clear c15
                try clear c15b0
                try clear c15b1
                try clear c17
                try clear c26
                try clear c26b0
                try clear c26b1
                try clear c28
                try clear c37
                try clear c37b0
                try clear c37b1
                try clear c39
                try clear hcz14_0
                try clear hcz14_1
                try clear hcz14_2
                try clear hcz14_3
                try clear hcz14_4
                try clear hcz14_5
                try clear hcz14_6
                try clear hcz18_0
                try clear hcz18_1
                try clear hcz18_2
                try clear hcz18_3
                try clear hcz18_4
                try clear hcz18_5
                try clear hcz18_6
                try clear hcz25_0
                try clear hcz25_1
                try clear hcz25_2
                try clear hcz25_3
                try clear hcz25_4
                try clear hcz25_5
                try clear hcz25_6
                try clear hcz29_0
                try clear hcz29_1
                try clear hcz29_2
                try clear hcz29_3
                try clear hcz29_4
                try clear hcz29_5
                try clear hcz29_6
                try clear hcz36_0
                try clear hcz36_1
                try clear hcz36_2
                try clear hcz36_3
                try clear hcz36_4
                try clear hcz36_5
                try clear hcz36_6
                try clear hcz40_0
                try clear hcz40_1
                try clear hcz40_2
                try clear hcz40_3
                try clear hcz40_4
                try clear hcz40_5
                try clear hcz40_6
                try clear hcz6_0
                try clear hcz6_1
                try clear hcz6_2
                try clear hcz6_3
                try clear hcz6_4
                try clear hcz6_5
                try clear hcz6_6
                try clear hcz9_0
                try clear hcz9_1
                try clear hcz9_2
                try clear hcz9_3
                try clear hcz9_4
                try clear hcz9_5
                try clear hcz9_6
                try clear hfz14_0
                try clear hfz14_1
                try clear hfz14_2
                try clear hfz14_3
                try clear hfz14_4
                try clear hfz14_5
                try clear hfz14_6
                try clear hfz18_0
                try clear hfz18_1
                try clear hfz18_2
                try clear hfz18_3
                try clear hfz18_4
                try clear hfz18_5
                try clear hfz18_6
                try clear hfz25_0
                try clear hfz25_1
                try clear hfz25_2
                try clear hfz25_3
                try clear hfz25_4
                try clear hfz25_5
                try clear hfz25_6
                try clear hfz29_0
                try clear hfz29_1
                try clear hfz29_2
                try clear hfz29_3
                try clear hfz29_4
                try clear hfz29_5
                try clear hfz29_6
                try clear hfz36_0
                try clear hfz36_1
                try clear hfz36_2
                try clear hfz36_3
                try clear hfz36_4
                try clear hfz36_5
                try clear hfz36_6
                try clear hfz40_0
                try clear hfz40_1
                try clear hfz40_2
                try clear hfz40_3
                try clear hfz40_4
                try clear hfz40_5
                try clear hfz40_6
                try clear hfz6_0
                try clear hfz6_1
                try clear hfz6_2
                try clear hfz6_3
                try clear hfz6_4
                try clear hfz6_5
                try clear hfz6_6
                try clear hfz9_0
                try clear hfz9_1
                try clear hfz9_2
                try clear hfz9_3
                try clear hfz9_4
                try clear hfz9_5
                try clear hfz9_6
                try clear p2
                obtain ⟨kq, x3_34, HA, HJ34, HO_3, BK116, HB⟩ := hcut
                cases kq with
                | zero => exact absurd HA.out (by simp [cachepot_Tell.j3])
                | succ kj34 =>
                  have H := HA.out
                  clear HA
                  simp only [cachepot_Tell.j3] at H
                  have H' := Aside0.mk H
                  clear H
                  have hcz46_0 : wc.cell? ⟨gb116, 0, none⟩ = some (.int .i64 a0_0) := (blk_cell BK116.out 0).trans rfl
                  have hcz46_1 : wc.cell? ⟨gb116, 1, none⟩ = some (.int .i64 a0_1) := (blk_cell BK116.out 1).trans rfl
                  have hcz46_2 : wc.cell? ⟨gb116, 2, none⟩ = some (.int .u32 a0_2) := (blk_cell BK116.out 2).trans rfl
                  have hcz46_3 : wc.cell? ⟨gb116, 3, none⟩ = some (.int .i64 a0_3) := (blk_cell BK116.out 3).trans rfl
                  have hcz46_4 : wc.cell? ⟨gb116, 4, none⟩ = some (.slice A0_4 l0_4.length c0_4) := (blk_cell BK116.out 4).trans rfl
                  have hcz46_5 : wc.cell? ⟨gb116, 5, none⟩ = some (.slice A0_5 l0_5.length c0_5) := (blk_cell BK116.out 5).trans rfl
                  have hcz46_6 : wc.cell? ⟨gb116, 6, none⟩ = some (.slice A0_6 l0_6.length c0_6) := (blk_cell BK116.out 6).trans rfl
                  have hfz46_0 := blk_frozen BK116.out 0
                  have hfz46_1 := blk_frozen BK116.out 1
                  have hfz46_2 := blk_frozen BK116.out 2
                  have hfz46_3 := blk_frozen BK116.out 3
                  have hfz46_4 := blk_frozen BK116.out 4
                  have hfz46_5 := blk_frozen BK116.out 5
                  have hfz46_6 := blk_frozen BK116.out 6
                  go_wp2
                  go_loopg [3, 48] kj34 (fun kq v3 v48 w' => ∃ (x3_5 : List ByteArray) (x48_5 : Int), v48 = .int .i64 x48_5 ∧ Aside0 (cachepot_Tell.l0 kq x3_5 l0_4 (l0_4.length : Int) x48_5 a0_0 a0_1 a0_2 a0_3 l0_4 l0_5 l0_6 = some r) ∧ Aside0 (kq ≤ kj34) ∧ Aside0 (Kd.R Kd.string 9 w' w.heap.size (fun _ => True) v3 x3_5) ∧ Aside0 (w'.heap[gb116]? = some (.cells #[.int .i64 a0_0, .int .i64 a0_1, .int .u32 a0_2, .int .i64 a0_3, (.slice A0_4 l0_4.length c0_4), (.slice A0_5 l0_5.length c0_5), (.slice A0_6 l0_6.length c0_6)] 27 (0, 0))) ∧ Aside0 (Below w.heap.size w w'))
                  case atStart => exact ⟨(x3_34), (0), (by first | rfl | (simp; done) | (simp [*]; done)), H', ⟨Nat.le_refl _⟩, ⟨by (with_reducible repeat (first | apply Kd.R_alloc | apply Kd.R_drewN | apply Kd.R_drew)); exact HO_3.out⟩, ⟨by (with_reducible repeat (first | refine blk_drewN ?_ _ | refine blk_drew ?_ | refine blk_alloc ?_ _)); exact BK116.out⟩, ⟨by repeat (first | (with_reducible first | exact HB.out | apply below_alloc | apply pw_below_drewN | apply below_drew1 | refine below_set ?_ GE116.out) | exact HB.out)⟩⟩
                  case round =>
                    clear H'
                    try clear c1
                    try clear c2
                    try clear p2
                    try clear c3
                    try clear c6
                    try clear c7
                    try clear c7b0
                    try clear c7b1
                    try clear c9
                    try clear c10
                    try clear c15
                    try clear c15b0
                    try clear c15b1
                    try clear c17
                    try clear c26
                    try clear c26b0
                    try clear c26b1
                    try clear c28
                    try clear c37
                    try clear c37b0
                    try clear c37b1
                    try clear c39
                    try clear hcz14_0
                    try clear hcz14_1
                    try clear hcz14_2
                    try clear hcz14_3
                    try clear hcz14_4
                    try clear hcz14_5
                    try clear hcz14_6
                    try clear hcz18_0
                    try clear hcz18_1
                    try clear hcz18_2
                    try clear hcz18_3
                    try clear hcz18_4
                    try clear hcz18_5
                    try clear hcz18_6
                    try clear hcz25_0
                    try clear hcz25_1
                    try clear hcz25_2
                    try clear hcz25_3
                    try clear hcz25_4
                    try clear hcz25_5
                    try clear hcz25_6
                    try clear hcz29_0
                    try clear hcz29_1
                    try clear hcz29_2
                    try clear hcz29_3
                    try clear hcz29_4
                    try clear hcz29_5
                    try clear hcz29_6
                    try clear hcz36_0
                    try clear hcz36_1
                    try clear hcz36_2
                    try clear hcz36_3
                    try clear hcz36_4
                    try clear hcz36_5
                    try clear hcz36_6
                    try clear hcz40_0
                    try clear hcz40_1
                    try clear hcz40_2
                    try clear hcz40_3
                    try clear hcz40_4
                    try clear hcz40_5
                    try clear hcz40_6
                    try clear hcz46_0
                    try clear hcz46_1
                    try clear hcz46_2
                    try clear hcz46_3
                    try clear hcz46_4
                    try clear hcz46_5
                    try clear hcz46_6
                    try clear hcz6_0
                    try clear hcz6_1
                    try clear hcz6_2
                    try clear hcz6_3
                    try clear hcz6_4
                    try clear hcz6_5
                    try clear hcz6_6
                    try clear hcz9_0
                    try clear hcz9_1
                    try clear hcz9_2
                    try clear hcz9_3
                    try clear hcz9_4
                    try clear hcz9_5
                    try clear hcz9_6
                    try clear hfz14_0
                    try clear hfz14_1
                    try clear hfz14_2
                    try clear hfz14_3
                    try clear hfz14_4
                    try clear hfz14_5
                    try clear hfz14_6
                    try clear hfz18_0
                    try clear hfz18_1
                    try clear hfz18_2
                    try clear hfz18_3
                    try clear hfz18_4
                    try clear hfz18_5
                    try clear hfz18_6
                    try clear hfz25_0
                    try clear hfz25_1
                    try clear hfz25_2
                    try clear hfz25_3
                    try clear hfz25_4
                    try clear hfz25_5
                    try clear hfz25_6
                    try clear hfz29_0
                    try clear hfz29_1
                    try clear hfz29_2
                    try clear hfz29_3
                    try clear hfz29_4
                    try clear hfz29_5
                    try clear hfz29_6
                    try clear hfz36_0
                    try clear hfz36_1
                    try clear hfz36_2
                    try clear hfz36_3
                    try clear hfz36_4
                    try clear hfz36_5
                    try clear hfz36_6
                    try clear hfz40_0
                    try clear hfz40_1
                    try clear hfz40_2
                    try clear hfz40_3
                    try clear hfz40_4
                    try clear hfz40_5
                    try clear hfz40_6
                    try clear hfz46_0
                    try clear hfz46_1
                    try clear hfz46_2
                    try clear hfz46_3
                    try clear hfz46_4
                    try clear hfz46_5
                    try clear hfz46_6
                    try clear hfz6_0
                    try clear hfz6_1
                    try clear hfz6_2
                    try clear hfz6_3
                    try clear hfz6_4
                    try clear hfz6_5
                    try clear hfz6_6
                    try clear hfz9_0
                    try clear hfz9_1
                    try clear hfz9_2
                    try clear hfz9_3
                    try clear hfz9_4
                    try clear hfz9_5
                    try clear hfz9_6
                    try clear p2
                    obtain ⟨x3_5, x48_5, rfl, HA, HK5, HO_3, BK116, HB⟩ := hrel
                    cases gk with
                    | zero => exact absurd HA.out (by simp [cachepot_Tell.l0])
                    | succ k5 =>
                      have H := HA.out
                      clear HA
                      simp only [cachepot_Tell.l0] at H
                      by_cases c47 : x48_5 < (l0_4.length : Int)
                      · rw [if_pos c47] at H
                        have c47b0 : decide (x48_5 < (l0_4.length : Int)) = true := decide_eq_true c47
                        clear c47
                        by_cases c48 : 0 ≤ x48_5
                        · rw [if_pos c48] at H
                          have c48b0 : decide (0 ≤ x48_5) = true := decide_eq_true c48
                          clear c48
                          by_cases c49 : x48_5 < (l0_4.length : Int)
                          · rw [if_pos c49] at H
                            have c49b0 : decide (x48_5 < (l0_4.length : Int)) = true := decide_eq_true c49
                            clear c49
                            obtain ⟨bq50, hbq50⟩ : ∃ b_ : Bool, b_ = ((rd_T39 l0_4 x48_5).f1) := ⟨_, rfl⟩
                            replace H : (if bq50 = true then ((word_Quote.f ((rd_T39 l0_4 x48_5).f0)).bind fun t147 => (if t147.size + 1 ≤ 9223372036854775807 then ((word_Quote.f ((rd_T39 l0_4 x48_5).f2)).bind fun t148 => (if (t147 ++ (⟨#[61]⟩ : ByteArray)).size + t148.size ≤ 9223372036854775807 then (if ((t147 ++ (⟨#[61]⟩ : ByteArray)) ++ t148).size + 1 ≤ 9223372036854775807 then ((cachepot_decimal.f ((rd_T39 l0_4 x48_5).f3)).bind fun t149 => (if (((t147 ++ (⟨#[61]⟩ : ByteArray)) ++ t148) ++ (⟨#[64]⟩ : ByteArray)).size + t149.size ≤ 9223372036854775807 then (if x3_5.length < 8796093022208 then (cachepot_Tell.l0 k5 (x3_5 ++ [(((t147 ++ (⟨#[61]⟩ : ByteArray)) ++ t148) ++ (⟨#[64]⟩ : ByteArray)) ++ t149]) l0_4 (l0_4.length : Int) (wrap64 (x48_5 + 1)) a0_0 a0_1 a0_2 a0_3 l0_4 l0_5 l0_6) else (none)) else (none))) else (none)) else (none))) else (none))) else ((word_Quote.f ((rd_T39 l0_4 x48_5).f0)).bind fun t153 => (if t153.size + 1 ≤ 9223372036854775807 then (if x3_5.length < 8796093022208 then (cachepot_Tell.l0 k5 (x3_5 ++ [t153 ++ (⟨#[63]⟩ : ByteArray)]) l0_4 (l0_4.length : Int) (wrap64 (x48_5 + 1)) a0_0 a0_1 a0_2 a0_3 l0_4 l0_5 l0_6) else (none)) else (none)))) = some r := by rw [← hbq50] at H; exact H
                            have Nbq50 := Aside0.mk hbq50
                            clear hbq50
                            by_cases c51 : bq50 = true
                            · subst c51
                              have H1 : ((word_Quote.f ((rd_T39 l0_4 x48_5).f0)).bind fun t147 => (if t147.size + 1 ≤ 9223372036854775807 then ((word_Quote.f ((rd_T39 l0_4 x48_5).f2)).bind fun t148 => (if (t147 ++ (⟨#[61]⟩ : ByteArray)).size + t148.size ≤ 9223372036854775807 then (if ((t147 ++ (⟨#[61]⟩ : ByteArray)) ++ t148).size + 1 ≤ 9223372036854775807 then ((cachepot_decimal.f ((rd_T39 l0_4 x48_5).f3)).bind fun t149 => (if (((t147 ++ (⟨#[61]⟩ : ByteArray)) ++ t148) ++ (⟨#[64]⟩ : ByteArray)).size + t149.size ≤ 9223372036854775807 then (if x3_5.length < 8796093022208 then (cachepot_Tell.l0 k5 (x3_5 ++ [(((t147 ++ (⟨#[61]⟩ : ByteArray)) ++ t148) ++ (⟨#[64]⟩ : ByteArray)) ++ t149]) l0_4 (l0_4.length : Int) (wrap64 (x48_5 + 1)) a0_0 a0_1 a0_2 a0_3 l0_4 l0_5 l0_6) else (none)) else (none))) else (none)) else (none))) else (none))) = some r := by rw [if_pos rfl] at H; exact H
                              clear H
                              have H := H1
                              clear H1
                              replace H := Option.bind_eq_some_iff.mp H
                              obtain ⟨t147, A520, H⟩ := H
                              replace H : (if t147.size + 1 ≤ 9223372036854775807 then ((word_Quote.f ((rd_T39 l0_4 x48_5).f2)).bind fun t148 => (if (t147 ++ (⟨#[61]⟩ : ByteArray)).size + t148.size ≤ 9223372036854775807 then (if ((t147 ++ (⟨#[61]⟩ : ByteArray)) ++ t148).size + 1 ≤ 9223372036854775807 then ((cachepot_decimal.f ((rd_T39 l0_4 x48_5).f3)).bind fun t149 => (if (((t147 ++ (⟨#[61]⟩ : ByteArray)) ++ t148) ++ (⟨#[64]⟩ : ByteArray)).size + t149.size ≤ 9223372036854775807 then (if x3_5.length < 8796093022208 then (cachepot_Tell.l0 k5 (x3_5 ++ [(((t147 ++ (⟨#[61]⟩ : ByteArray)) ++ t148) ++ (⟨#[64]⟩ : ByteArray)) ++ t149]) l0_4 (l0_4.length : Int) (wrap64 (x48_5 + 1)) a0_0 a0_1 a0_2 a0_3 l0_4 l0_5 l0_6) else (none)) else (none))) else (none)) else (none))) else (none)) = some r := H
                              have A52 := Aside0.mk A520
                              clear A520
                              by_cases c53 : t147.size + 1 ≤ 9223372036854775807
                              · rw [if_pos c53] at H
                                have c53b0 := eq_true c53
                                have c53b1 : decide (t147.size + 1 ≤ 9223372036854775807) = true := decide_eq_true c53
                                try have c53b2 : (9223372036854775807 < t147.size + 1) = False := eq_false (Nat.not_lt.2 c53)
                                replace H := Option.bind_eq_some_iff.mp H
                                obtain ⟨t148, A540, H⟩ := H
                                replace H : (if (t147 ++ (⟨#[61]⟩ : ByteArray)).size + t148.size ≤ 9223372036854775807 then (if ((t147 ++ (⟨#[61]⟩ : ByteArray)) ++ t148).size + 1 ≤ 9223372036854775807 then ((cachepot_decimal.f ((rd_T39 l0_4 x48_5).f3)).bind fun t149 => (if (((t147 ++ (⟨#[61]⟩ : ByteArray)) ++ t148) ++ (⟨#[64]⟩ : ByteArray)).size + t149.size ≤ 9223372036854775807 then (if x3_5.length < 8796093022208 then (cachepot_Tell.l0 k5 (x3_5 ++ [(((t147 ++ (⟨#[61]⟩ : ByteArray)) ++ t148) ++ (⟨#[64]⟩ : ByteArray)) ++ t149]) l0_4 (l0_4.length : Int) (wrap64 (x48_5 + 1)) a0_0 a0_1 a0_2 a0_3 l0_4 l0_5 l0_6) else (none)) else (none))) else (none)) else (none)) = some r := H
                                have A54 := Aside0.mk A540
                                clear A540
                                by_cases c55 : (t147 ++ (⟨#[61]⟩ : ByteArray)).size + t148.size ≤ 9223372036854775807
                                · rw [if_pos c55] at H
                                  have c55b0 := eq_true c55
                                  have c55b1 : decide ((t147 ++ (⟨#[61]⟩ : ByteArray)).size + t148.size ≤ 9223372036854775807) = true := decide_eq_true c55
                                  try have c55b2 : (9223372036854775807 < (t147 ++ (⟨#[61]⟩ : ByteArray)).size + t148.size) = False := eq_false (Nat.not_lt.2 c55)
                                  try have c55b9 : (9223372036854775807 < t147.size + 1 + t148.size) = False := by (have h_ := c55b2; rw [ByteArray.size_append] at h_; exact h_)
                                  by_cases c56 : ((t147 ++ (⟨#[61]⟩ : ByteArray)) ++ t148).size + 1 ≤ 9223372036854775807
                                  · rw [if_pos c56] at H
                                    have c56b0 := eq_true c56
                                    have c56b1 : decide (((t147 ++ (⟨#[61]⟩ : ByteArray)) ++ t148).size + 1 ≤ 9223372036854775807) = true := decide_eq_true c56
                                    try have c56b2 : (9223372036854775807 < ((t147 ++ (⟨#[61]⟩ : ByteArray)) ++ t148).size + 1) = False := eq_false (Nat.not_lt.2 c56)
                                    try have c56b9 : (9223372036854775807 < t147.size + 1 + t148.size + 1) = False := by (have h_ := c56b2; rw [ByteArray.size_append] at h_; rw [ByteArray.size_append] at h_; exact h_)
                                    replace H := Option.bind_eq_some_iff.mp H
                                    obtain ⟨t149, A570, H⟩ := H
                                    replace H : (if (((t147 ++ (⟨#[61]⟩ : ByteArray)) ++ t148) ++ (⟨#[64]⟩ : ByteArray)).size + t149.size ≤ 9223372036854775807 then (if x3_5.length < 8796093022208 then (cachepot_Tell.l0 k5 (x3_5 ++ [(((t147 ++ (⟨#[61]⟩ : ByteArray)) ++ t148) ++ (⟨#[64]⟩ : ByteArray)) ++ t149]) l0_4 (l0_4.length : Int) (wrap64 (x48_5 + 1)) a0_0 a0_1 a0_2 a0_3 l0_4 l0_5 l0_6) else (none)) else (none)) = some r := H
                                    have A57 := Aside0.mk A570
                                    clear A570
                                    by_cases c58 : (((t147 ++ (⟨#[61]⟩ : ByteArray)) ++ t148) ++ (⟨#[64]⟩ : ByteArray)).size + t149.size ≤ 9223372036854775807
                                    · rw [if_pos c58] at H
                                      have c58b0 := eq_true c58
                                      have c58b1 : decide ((((t147 ++ (⟨#[61]⟩ : ByteArray)) ++ t148) ++ (⟨#[64]⟩ : ByteArray)).size + t149.size ≤ 9223372036854775807) = true := decide_eq_true c58
                                      try have c58b2 : (9223372036854775807 < (((t147 ++ (⟨#[61]⟩ : ByteArray)) ++ t148) ++ (⟨#[64]⟩ : ByteArray)).size + t149.size) = False := eq_false (Nat.not_lt.2 c58)
                                      try have c58b9 : (9223372036854775807 < t147.size + 1 + t148.size + 1 + t149.size) = False := by (have h_ := c58b2; rw [ByteArray.size_append] at h_; rw [ByteArray.size_append] at h_; rw [ByteArray.size_append] at h_; exact h_)
                                      by_cases c59 : x3_5.length < 8796093022208
                                      · rw [if_pos c59] at H
                                        have LMc59 := Aside0.mk c59
                                        clear c59
                                        obtain ⟨y150, hy150⟩ : ∃ y_ : List ByteArray, y_ = (x3_5 ++ [(((t147 ++ (⟨#[61]⟩ : ByteArray)) ++ t148) ++ (⟨#[64]⟩ : ByteArray)) ++ t149]) := ⟨_, rfl⟩
                                        replace H : (cachepot_Tell.l0 k5 y150 l0_4 (l0_4.length : Int) (wrap64 (x48_5 + 1)) a0_0 a0_1 a0_2 a0_3 l0_4 l0_5 l0_6) = some r := by first | (rw [hy150]; with_reducible exact H) | (have H2_ := (Option.bind_some _ _).symm.trans H; rw [hy150]; with_reducible exact H2_) | (have H2_ := (Option.bind_some _ _).symm.trans H; with_reducible exact H2_) | with_reducible exact H | (rw [hy150]; exact H) | exact H
                                        have Ny150 := Aside0.mk hy150
                                        clear hy150
                                        have H' := Aside0.mk H
                                        clear H
                                        have p145 : 0 ≤ (x48_5 : Int) := of_decide_eq_true (by first | (with_reducible assumption) | assumption)
                                        have q145 : x48_5 < (l0_4.length : Int) := of_decide_eq_true (by first | (with_reducible assumption) | assumption)
                                        obtain ⟨ad145, e145, hx145_0, hx145_1, hx145_2, hx145_3⟩ := at_T39 HR0_4.out x48_5 p145 q145
                                        (try rw [← Nbq50.out] at hx145_1)
                                        (try rw [← Nbq50.out] at hw145_1)
                                        cases e145
                                        replace hx145_0 := (HB.out.cell (World.block_lt_of_cell? w _ hx145_0)).trans hx145_0
                                        replace hx145_1 := (HB.out.cell (World.block_lt_of_cell? w _ hx145_1)).trans hx145_1
                                        replace hx145_2 := (HB.out.cell (World.block_lt_of_cell? w _ hx145_2)).trans hx145_2
                                        replace hx145_3 := (HB.out.cell (World.block_lt_of_cell? w _ hx145_3)).trans hx145_3
                                        replace p145 := eq_true p145
                                        replace q145 := eq_true q145
                                        try go_wp2_with (first | ((with_reducible refine gate_dst (N := 5) rfl ?_); refine box_event ?hg (N := 5) ?hd (cs := #[.string (⟨#[]⟩ : ByteArray), .bool false, .string (⟨#[]⟩ : ByteArray), .int .u32 0]) (t := 39) ?hr ?_; (case hd => rfl); (case hg => rfl); (case hr => first | (go_simp; done) | (go_simp; rfl)); intro gb146 hg w60 hbox hb; have n0_ := Aside0.mk (Kd.R_below (by (with_reducible repeat (first | apply Kd.R_alloc | apply Kd.R_drewN | apply Kd.R_drew)); exact HO_3.out) hb); have n1_ := Aside0.mk (blk_below (g := gb116) (o := .cells #[.int .i64 a0_0, .int .i64 a0_1, .int .u32 a0_2, .int .i64 a0_3, .slice (some ad145) l0_4.length c0_4, .slice A0_5 l0_5.length c0_5, .slice A0_6 l0_6.length c0_6] 27 (0, 0)) (by (with_reducible repeat (first | refine blk_drewN ?_ _ | refine blk_drew ?_ | refine blk_alloc ?_ _)); exact BK116.out) hb); have n2_ := Aside0.mk (below_step (by repeat (first | (with_reducible first | exact HB.out | apply below_alloc | apply pw_below_drewN | apply below_drew1 | refine below_set ?_ GE116.out) | exact HB.out)) hb); have n3_ := Aside0.mk (hbox); have n4_ := Aside0.mk ((by rw [hg]; exact (below_size (by repeat (first | (with_reducible first | exact HB.out | apply below_alloc | apply pw_below_drewN | apply below_drew1 | refine below_set ?_ GE116.out) | exact HB.out))) : w.heap.size ≤ gb146)); have n5_ := Aside0.mk ((by rw [hg]; exact (below_size (by repeat (first | (with_reducible first | exact HB.out | apply below_alloc | apply pw_below_drewN | apply below_drew1 | refine below_set ?_ GE116.out) | exact HB.out))) : w.heap.size ≤ gb146)); have n6_ := Aside0.mk ((by rw [hg]; exact Nat.ne_of_lt (blk_lt (g := gb116) (o := .cells #[.int .i64 a0_0, .int .i64 a0_1, .int .u32 a0_2, .int .i64 a0_3, .slice (some ad145) l0_4.length c0_4, .slice A0_5 l0_5.length c0_5, .slice A0_6 l0_6.length c0_6] 27 (0, 0)) (by (with_reducible repeat (first | refine blk_drewN ?_ _ | refine blk_drew ?_ | refine blk_alloc ?_ _)); exact BK116.out)) : gb116 ≠ gb146)); have n7_ := Aside0.mk ((by rw [hg]; exact Nat.ne_of_gt (blk_lt (g := gb116) (o := .cells #[.int .i64 a0_0, .int .i64 a0_1, .int .u32 a0_2, .int .i64 a0_3, .slice (some ad145) l0_4.length c0_4, .slice A0_5 l0_5.length c0_5, .slice A0_6 l0_6.length c0_6] 27 (0, 0)) (by (with_reducible repeat (first | refine blk_drewN ?_ _ | refine blk_drew ?_ | refine blk_alloc ?_ _)); exact BK116.out)) : gb146 ≠ gb116)); clear HO_3; clear BK116; clear HB; have HO_3 := n0_; have BK116 := n1_; have HB := n2_; have BK146 := n3_; have GW146 := n4_; have GE146 := n5_; have NB116_146 := n6_; have NB146_116 := n7_; clear n0_ n1_ n2_ n3_ n4_ n5_ n6_ n7_; clear hb hbox hg; have hnb61 := NB146_116.out; have hnc61 := NB116_146.out; have hcz62_0 : w60.cell? ⟨gb146, 0, none⟩ = some (.string (⟨#[]⟩ : ByteArray)) := (blk_cell BK146.out 0).trans rfl; have hcz62_1 : w60.cell? ⟨gb146, 1, none⟩ = some (.bool false) := (blk_cell BK146.out 1).trans rfl; have hcz62_2 : w60.cell? ⟨gb146, 2, none⟩ = some (.string (⟨#[]⟩ : ByteArray)) := (blk_cell BK146.out 2).trans rfl; have hcz62_3 : w60.cell? ⟨gb146, 3, none⟩ = some (.int .u32 0) := (blk_cell BK146.out 3).trans rfl; have hfz62_0 := blk_frozen BK146.out 0; have hfz62_1 := blk_frozen BK146.out 1; have hfz62_2 := blk_frozen BK146.out 2; have hfz62_3 := blk_frozen BK146.out 3))
                                        have n0_ : Aside0 (Kd.R Kd.string 9 ((((w60.setCell ⟨gb146, 0, none⟩ (.string ((rd_T39 l0_4 x48_5).f0))).setCell ⟨gb146, 1, none⟩ (.bool true)).setCell ⟨gb146, 2, none⟩ (.string ((rd_T39 l0_4 x48_5).f2))).setCell ⟨gb146, 3, none⟩ (.int .u32 ((rd_T39 l0_4 x48_5).f3))) w.heap.size (fun _ => True) u3 x3_5) := ⟨by (with_reducible repeat (first | apply Kd.R_alloc | apply Kd.R_drewN | apply Kd.R_drew)); exact Kd.R_mono (Kd.R_far (p := ⟨gb146, 3, none⟩) (Kd.R_far (p := ⟨gb146, 2, none⟩) (Kd.R_far (p := ⟨gb146, 1, none⟩) (Kd.R_far (p := ⟨gb146, 0, none⟩) (Kd.R_types HO_3.out BK146.out (by decide)) (fun _ hk => hk.2) (.string ((rd_T39 l0_4 x48_5).f0))) (fun _ hk => hk.2) (.bool true)) (fun _ hk => hk.2) (.string ((rd_T39 l0_4 x48_5).f2))) (fun _ hk => hk.2) (.int .u32 ((rd_T39 l0_4 x48_5).f3))) (fun _ hk => trivial)⟩
                                        have n1_ : Aside0 (((((w60.setCell ⟨gb146, 0, none⟩ (.string ((rd_T39 l0_4 x48_5).f0))).setCell ⟨gb146, 1, none⟩ (.bool true)).setCell ⟨gb146, 2, none⟩ (.string ((rd_T39 l0_4 x48_5).f2))).setCell ⟨gb146, 3, none⟩ (.int .u32 ((rd_T39 l0_4 x48_5).f3))).heap[gb116]? = some (.cells #[.int .i64 a0_0, .int .i64 a0_1, .int .u32 a0_2, .int .i64 a0_3, .slice (some ad145) l0_4.length c0_4, .slice A0_5 l0_5.length c0_5, .slice A0_6 l0_6.length c0_6] 27 (0, 0))) := ⟨by (with_reducible repeat (first | refine blk_drewN ?_ _ | refine blk_drew ?_ | refine blk_alloc ?_ _)); refine blk_far ?_ NB116_146.out _; (with_reducible repeat (first | refine blk_drewN ?_ _ | refine blk_drew ?_ | refine blk_alloc ?_ _)); refine blk_far ?_ NB116_146.out _; (with_reducible repeat (first | refine blk_drewN ?_ _ | refine blk_drew ?_ | refine blk_alloc ?_ _)); refine blk_far ?_ NB116_146.out _; (with_reducible repeat (first | refine blk_drewN ?_ _ | refine blk_drew ?_ | refine blk_alloc ?_ _)); refine blk_far ?_ NB116_146.out _; (with_reducible repeat (first | refine blk_drewN ?_ _ | refine blk_drew ?_ | refine blk_alloc ?_ _)); exact BK116.out⟩
                                        have n2_ : Aside0 (((((w60.setCell ⟨gb146, 0, none⟩ (.string ((rd_T39 l0_4 x48_5).f0))).setCell ⟨gb146, 1, none⟩ (.bool true)).setCell ⟨gb146, 2, none⟩ (.string ((rd_T39 l0_4 x48_5).f2))).setCell ⟨gb146, 3, none⟩ (.int .u32 ((rd_T39 l0_4 x48_5).f3))).heap[gb146]? = some (.cells #[.string ((rd_T39 l0_4 x48_5).f0), .bool true, .string ((rd_T39 l0_4 x48_5).f2), .int .u32 ((rd_T39 l0_4 x48_5).f3)] 39 (0, 0))) := ⟨by (with_reducible repeat (first | refine blk_drewN ?_ _ | refine blk_drew ?_ | refine blk_alloc ?_ _)); refine blk_put (cs := #[.string ((rd_T39 l0_4 x48_5).f0), .bool true, .string ((rd_T39 l0_4 x48_5).f2), .int .u32 0]) ?_ 3 _ rfl; (with_reducible repeat (first | refine blk_drewN ?_ _ | refine blk_drew ?_ | refine blk_alloc ?_ _)); refine blk_put (cs := #[.string ((rd_T39 l0_4 x48_5).f0), .bool true, .string (⟨#[]⟩ : ByteArray), .int .u32 0]) ?_ 2 _ rfl; (with_reducible repeat (first | refine blk_drewN ?_ _ | refine blk_drew ?_ | refine blk_alloc ?_ _)); refine blk_put (cs := #[.string ((rd_T39 l0_4 x48_5).f0), .bool false, .string (⟨#[]⟩ : ByteArray), .int .u32 0]) ?_ 1 _ rfl; (with_reducible repeat (first | refine blk_drewN ?_ _ | refine blk_drew ?_ | refine blk_alloc ?_ _)); refine blk_put (cs := #[.string (⟨#[]⟩ : ByteArray), .bool false, .string (⟨#[]⟩ : ByteArray), .int .u32 0]) ?_ 0 _ rfl; (with_reducible repeat (first | refine blk_drewN ?_ _ | refine blk_drew ?_ | refine blk_alloc ?_ _)); exact BK146.out⟩
                                        have n3_ : Aside0 (Below w.heap.size w ((((w60.setCell ⟨gb146, 0, none⟩ (.string ((rd_T39 l0_4 x48_5).f0))).setCell ⟨gb146, 1, none⟩ (.bool true)).setCell ⟨gb146, 2, none⟩ (.string ((rd_T39 l0_4 x48_5).f2))).setCell ⟨gb146, 3, none⟩ (.int .u32 ((rd_T39 l0_4 x48_5).f3)))) := ⟨by repeat (first | (with_reducible first | exact HB.out | apply below_alloc | apply pw_below_drewN | apply below_drew1 | refine below_set ?_ GE116.out | refine below_set ?_ GE146.out) | exact HB.out)⟩
                                        (try clear HO_3)
                                        (try clear BK116)
                                        (try clear BK146)
                                        (try clear HB)
                                        generalize ((((w60.setCell ⟨gb146, 0, none⟩ (.string ((rd_T39 l0_4 x48_5).f0))).setCell ⟨gb146, 1, none⟩ (.bool true)).setCell ⟨gb146, 2, none⟩ (.string ((rd_T39 l0_4 x48_5).f2))).setCell ⟨gb146, 3, none⟩ (.int .u32 ((rd_T39 l0_4 x48_5).f3))) = w63 at n0_ n1_ n2_ n3_ ⊢
                                        have HO_3 := n0_
                                        have BK116 := n1_
                                        have BK146 := n2_
                                        have HB := n3_
                                        clear n0_ n1_ n2_ n3_
                                        have n0_ := Aside0.mk (Kd.R_drew HO_3.out)
                                        have n1_ := Aside0.mk (blk_drew BK116.out)
                                        have n2_ := Aside0.mk (blk_drew BK146.out)
                                        have n3_ := Aside0.mk (below_drew1 HB.out)
                                        clear HO_3
                                        clear BK116
                                        clear BK146
                                        clear HB
                                        have HO_3 := n0_
                                        have BK116 := n1_
                                        have BK146 := n2_
                                        have HB := n3_
                                        clear n0_ n1_ n2_ n3_
                                        refine start_ (n := 17) (S := fun w' => w'.cell? ⟨gb146, 0, none⟩ = some (.string ((rd_T39 l0_4 x48_5).f0)) ∧ w'.cell? ⟨gb146, 1, none⟩ = some (.bool true) ∧ w'.cell? ⟨gb146, 2, none⟩ = some (.string ((rd_T39 l0_4 x48_5).f2)) ∧ w'.cell? ⟨gb146, 3, none⟩ = some (.int .u32 ((rd_T39 l0_4 x48_5).f3))) (ds := []) #[false, false, false, false, false, false, false, false, false, false, false, false, false, false, false, false, false] (by kernel_rfl) rfl rfl ⟨(blk_cell BK146.out 0).trans rfl, (blk_cell BK146.out 1).trans rfl, (blk_cell BK146.out 2).trans rfl, (blk_cell BK146.out 3).trans rfl⟩ (fun hHeld => ?_); refine with_tabW cachepot_Tell.tab14 cachepot_Tell.bits14 (fun HT_ HW_ => ?_)
                                        generalize w63.drew = w64 at HO_3 BK116 BK146 HB hHeld ⊢
                                        refine pure_ (i := 0) (N := some 54) (v := ?_) (a' := ?_) #[true, false, false, false, false, false, false, false, false, false, false, false, false, false, false, false, false] rfl rfl (any_of HT_.out (by kernel_rfl)) (fun _ _ _ h => h) (Or.inl ⟨by rfl, ?_⟩) ?_ ?_
                                        rotate_left
                                        · intro w'
                                          go_simp
                                          with_reducible rfl
                                        rotate_left
                                        · simp only [Act.put, List.setIfInBounds_toArray, List.set_cons_zero, List.set_cons_succ, i64_w, i32_w]
                                          rfl
                                        refine pure_ (i := 1) (N := some 55) (v := ?_) (a' := ?_) #[true, true, false, false, false, false, false, false, false, false, false, false, false, false, false, false, false] rfl rfl (any_of HT_.out (by kernel_rfl)) (fun _ _ _ h => h) (Or.inl ⟨by rfl, ?_⟩) ?_ ?_
                                        rotate_left
                                        · intro w'
                                          go_simp
                                          with_reducible rfl
                                        rotate_left
                                        · simp only [Act.put, List.setIfInBounds_toArray, List.set_cons_zero, List.set_cons_succ, i64_w, i32_w]
                                          rfl
                                        refine pure_ (i := 5) (N := some 59) (v := ?_) (a' := ?_) #[true, true, false, false, false, true, false, false, false, false, false, false, false, false, false, false, false] rfl rfl (any_of HT_.out (by kernel_rfl)) (fun _ _ _ h => h) (Or.inl ⟨by rfl, ?_⟩) ?_ ?_
                                        rotate_left
                                        · intro w'
                                          go_simp
                                          with_reducible rfl
                                        rotate_left
                                        · simp only [Act.put, List.setIfInBounds_toArray, List.set_cons_zero, List.set_cons_succ, i64_w, i32_w]
                                          rfl
                                        refine pure_ (i := 10) (N := some 64) (v := ?_) (a' := ?_) #[true, true, false, false, false, true, false, false, false, false, true, false, false, false, false, false, false] rfl rfl (any_of HT_.out (by kernel_rfl)) (fun _ _ _ h => h) (Or.inl ⟨by rfl, ?_⟩) ?_ ?_
                                        rotate_left
                                        · intro w'
                                          go_simp
                                          with_reducible rfl
                                        rotate_left
                                        · simp only [Act.put, List.setIfInBounds_toArray, List.set_cons_zero, List.set_cons_succ, i64_w, i32_w]
                                          rfl
                                        refine take_ (i := 2) (N := some 56) (v := ?_) (a' := ?_) #[true, true, true, false, false, true, false, false, false, false, true, false, false, false, false, false, false] rfl rfl (take_ofW HT_.out HW_.out (by kernel_rfl)) (fun _ _ _ h => h) (Or.inl ⟨by rfl, ?_⟩) hHeld ?_ ?_
                                        rotate_left
                                        · rintro w' ⟨s0, s1, s2, s3⟩
                                          go_simp
                                          with_reducible rfl
                                        rotate_left
                                        · simp only [Act.put, List.setIfInBounds_toArray, List.set_cons_zero, List.set_cons_succ, i64_w, i32_w]
                                          rfl
                                        refine take_ (i := 6) (N := some 60) (v := ?_) (a' := ?_) #[true, true, true, false, false, true, true, false, false, false, true, false, false, false, false, false, false] rfl rfl (take_ofW HT_.out HW_.out (by kernel_rfl)) (fun _ _ _ h => h) (Or.inl ⟨by rfl, ?_⟩) hHeld ?_ ?_
                                        rotate_left
                                        · rintro w' ⟨s0, s1, s2, s3⟩
                                          go_simp
                                          with_reducible rfl
                                        rotate_left
                                        · simp only [Act.put, List.setIfInBounds_toArray, List.set_cons_zero, List.set_cons_succ, i64_w, i32_w]
                                          rfl
                                        refine take_ (i := 11) (N := some 65) (v := ?_) (a' := ?_) #[true, true, true, false, false, true, true, false, false, false, true, true, false, false, false, false, false] rfl rfl (take_ofW HT_.out HW_.out (by kernel_rfl)) (fun _ _ _ h => h) (Or.inl ⟨by rfl, ?_⟩) hHeld ?_ ?_
                                        rotate_left
                                        · rintro w' ⟨s0, s1, s2, s3⟩
                                          go_simp
                                          with_reducible rfl
                                        rotate_left
                                        · simp only [Act.put, List.setIfInBounds_toArray, List.set_cons_zero, List.set_cons_succ, i64_w, i32_w]
                                          rfl
                                        refine one_ (i := 3) (N := some 57) #[true, true, true, true, false, true, true, false, false, false, true, true, false, false, false, false, false] rfl rfl (one_of HT_.out (by kernel_rfl)) (by decide) (fun K hK => ?_)
                                        refine goes_ Tryz.func11 (by kernel_rfl) rfl #[.string ((rd_T39 l0_4 x48_5).f0)] (by rfl) rfl rfl (by (try simp only [List.map_toArray, List.map_cons, List.map_nil]); first | done | rfl | (simp only [List.length_drop, List.length_take]; rfl)) ?_
                                        with_reducible refine (word_Quote.calls ((rd_T39 l0_4 x48_5).f0) t147 _ A52.out (by first | exact hT | (refine Tabs.below hT ?_; (repeat (first | (with_reducible first | exact HB.out | exact Below.refl _ _ | apply below_alloc | apply pw_below_drewN | apply below_drew1) | exact HB.out))))).mono ?_
                                        rintro e w65 ⟨rfl, hb⟩
                                        refine ⟨_, rfl, ?_⟩
                                        have n0_ := Aside0.mk (Kd.R_below (by (with_reducible repeat (first | apply Kd.R_alloc | apply Kd.R_drewN | apply Kd.R_drew)); exact HO_3.out) hb)
                                        have n1_ := Aside0.mk (blk_below (g := gb116) (o := .cells #[.int .i64 a0_0, .int .i64 a0_1, .int .u32 a0_2, .int .i64 a0_3, .slice (some ad145) l0_4.length c0_4, .slice A0_5 l0_5.length c0_5, .slice A0_6 l0_6.length c0_6] 27 (0, 0)) (by (with_reducible repeat (first | refine blk_drewN ?_ _ | refine blk_drew ?_ | refine blk_alloc ?_ _)); exact BK116.out) hb)
                                        have n2_ := Aside0.mk (blk_below (g := gb146) (o := .cells #[.string ((rd_T39 l0_4 x48_5).f0), .bool true, .string ((rd_T39 l0_4 x48_5).f2), .int .u32 ((rd_T39 l0_4 x48_5).f3)] 39 (0, 0)) (by (with_reducible repeat (first | refine blk_drewN ?_ _ | refine blk_drew ?_ | refine blk_alloc ?_ _)); exact BK146.out) hb)
                                        have n3_ := Aside0.mk (below_step (by repeat (first | (with_reducible first | exact HB.out | apply below_alloc | apply pw_below_drewN | apply below_drew1 | refine below_set ?_ GE116.out | refine below_set ?_ GE146.out) | exact HB.out)) hb)
                                        clear HO_3
                                        clear BK116
                                        clear BK146
                                        clear HB
                                        have HO_3 := n0_
                                        have BK116 := n1_
                                        have BK146 := n2_
                                        have HB := n3_
                                        clear n0_ n1_ n2_ n3_
                                        (try clear hb)
                                        (try clear hb2)
                                        (try clear hk)
                                        (try clear hi)
                                        refine hK.out _ _ ⟨(blk_cell BK146.out 0).trans rfl, (blk_cell BK146.out 1).trans rfl, (blk_cell BK146.out 2).trans rfl, (blk_cell BK146.out 3).trans rfl⟩ (fun hHeld => ?_)
                                        clear hK K
                                        refine norm_ (a' := ?_) ?_ ?_
                                        rotate_left
                                        · show Act.put _ (some 57) _ = _
                                          simp only [Act.put, List.setIfInBounds_toArray, List.set_cons_zero, List.set_cons_succ, i64_w, i32_w]
                                          rfl
                                        refine pure_ (i := 4) (N := some 58) (v := ?_) (a' := ?_) #[true, true, true, true, true, true, true, false, false, false, true, true, false, false, false, false, false] rfl rfl (any_of HT_.out (by kernel_rfl)) (fun _ _ _ h => h) (Or.inl ⟨by rfl, ?_⟩) ?_ ?_
                                        rotate_left
                                        · intro w'
                                          go_simp
                                          with_reducible rfl
                                        rotate_left
                                        · simp only [Act.put, List.setIfInBounds_toArray, List.set_cons_zero, List.set_cons_succ, i64_w, i32_w]
                                          rfl
                                        refine one_ (i := 7) (N := some 61) #[true, true, true, true, true, true, true, true, false, false, true, true, false, false, false, false, false] rfl rfl (one_of HT_.out (by kernel_rfl)) (by decide) (fun K hK => ?_)
                                        refine goes_ Tryz.func11 (by kernel_rfl) rfl #[.string ((rd_T39 l0_4 x48_5).f2)] (by rfl) rfl rfl (by (try simp only [List.map_toArray, List.map_cons, List.map_nil]); first | done | rfl | (simp only [List.length_drop, List.length_take]; rfl)) ?_
                                        with_reducible refine (word_Quote.calls ((rd_T39 l0_4 x48_5).f2) t148 _ A54.out (by first | exact hT | (refine Tabs.below hT ?_; (repeat (first | (with_reducible first | exact HB.out | exact Below.refl _ _ | apply below_alloc | apply pw_below_drewN | apply below_drew1) | exact HB.out))))).mono ?_
                                        rintro e w66 ⟨rfl, hb⟩
                                        refine ⟨_, rfl, ?_⟩
                                        have n0_ := Aside0.mk (Kd.R_below (by (with_reducible repeat (first | apply Kd.R_alloc | apply Kd.R_drewN | apply Kd.R_drew)); exact HO_3.out) hb)
                                        have n1_ := Aside0.mk (blk_below (g := gb116) (o := .cells #[.int .i64 a0_0, .int .i64 a0_1, .int .u32 a0_2, .int .i64 a0_3, .slice (some ad145) l0_4.length c0_4, .slice A0_5 l0_5.length c0_5, .slice A0_6 l0_6.length c0_6] 27 (0, 0)) (by (with_reducible repeat (first | refine blk_drewN ?_ _ | refine blk_drew ?_ | refine blk_alloc ?_ _)); exact BK116.out) hb)
                                        have n2_ := Aside0.mk (blk_below (g := gb146) (o := .cells #[.string ((rd_T39 l0_4 x48_5).f0), .bool true, .string ((rd_T39 l0_4 x48_5).f2), .int .u32 ((rd_T39 l0_4 x48_5).f3)] 39 (0, 0)) (by (with_reducible repeat (first | refine blk_drewN ?_ _ | refine blk_drew ?_ | refine blk_alloc ?_ _)); exact BK146.out) hb)
                                        have n3_ := Aside0.mk (below_step (by repeat (first | (with_reducible first | exact HB.out | apply below_alloc | apply pw_below_drewN | apply below_drew1 | refine below_set ?_ GE116.out | refine below_set ?_ GE146.out) | exact HB.out)) hb)
                                        clear HO_3
                                        clear BK116
                                        clear BK146
                                        clear HB
                                        have HO_3 := n0_
                                        have BK116 := n1_
                                        have BK146 := n2_
                                        have HB := n3_
                                        clear n0_ n1_ n2_ n3_
                                        (try clear hb)
                                        (try clear hb2)
                                        (try clear hk)
                                        (try clear hi)
                                        refine hK.out _ _ ⟨(blk_cell BK146.out 0).trans rfl, (blk_cell BK146.out 1).trans rfl, (blk_cell BK146.out 2).trans rfl, (blk_cell BK146.out 3).trans rfl⟩ (fun hHeld => ?_)
                                        clear hK K
                                        refine norm_ (a' := ?_) ?_ ?_
                                        rotate_left
                                        · show Act.put _ (some 61) _ = _
                                          simp only [Act.put, List.setIfInBounds_toArray, List.set_cons_zero, List.set_cons_succ, i64_w, i32_w]
                                          rfl
                                        refine pure_ (i := 8) (N := some 62) (v := ?_) (a' := ?_) #[true, true, true, true, true, true, true, true, true, false, true, true, false, false, false, false, false] rfl rfl (any_of HT_.out (by kernel_rfl)) (fun _ _ _ h => h) (Or.inl ⟨by rfl, ?_⟩) ?_ ?_
                                        rotate_left
                                        · intro w'
                                          go_simp
                                          with_reducible rfl
                                        rotate_left
                                        · simp only [Act.put, List.setIfInBounds_toArray, List.set_cons_zero, List.set_cons_succ, i64_w, i32_w]
                                          rfl
                                        refine pure_ (i := 9) (N := some 63) (v := ?_) (a' := ?_) #[true, true, true, true, true, true, true, true, true, true, true, true, false, false, false, false, false] rfl rfl (any_of HT_.out (by kernel_rfl)) (fun _ _ _ h => h) (Or.inl ⟨by rfl, ?_⟩) ?_ ?_
                                        rotate_left
                                        · intro w'
                                          go_simp
                                          with_reducible rfl
                                        rotate_left
                                        · simp only [Act.put, List.setIfInBounds_toArray, List.set_cons_zero, List.set_cons_succ, i64_w, i32_w]
                                          rfl
                                        refine one_ (i := 12) (N := some 66) #[true, true, true, true, true, true, true, true, true, true, true, true, true, false, false, false, false] rfl rfl (one_of HT_.out (by kernel_rfl)) (by decide) (fun K hK => ?_)
                                        refine goes_ Tryz.func10 (by kernel_rfl) rfl #[.int .u32 ((rd_T39 l0_4 x48_5).f3)] (by rfl) rfl rfl (by (try simp only [List.map_toArray, List.map_cons, List.map_nil]); first | done | rfl | (simp only [List.length_drop, List.length_take]; rfl)) ?_
                                        with_reducible refine (cachepot_decimal.calls ((rd_T39 l0_4 x48_5).f3) t149 _ A57.out (by first | exact hT | (refine Tabs.below hT ?_; (repeat (first | (with_reducible first | exact HB.out | exact Below.refl _ _ | apply below_alloc | apply pw_below_drewN | apply below_drew1) | exact HB.out))))).mono ?_
                                        rintro e w67 ⟨rfl, hb⟩
                                        refine ⟨_, rfl, ?_⟩
                                        have n0_ := Aside0.mk (Kd.R_below (by (with_reducible repeat (first | apply Kd.R_alloc | apply Kd.R_drewN | apply Kd.R_drew)); exact HO_3.out) hb)
                                        have n1_ := Aside0.mk (blk_below (g := gb116) (o := .cells #[.int .i64 a0_0, .int .i64 a0_1, .int .u32 a0_2, .int .i64 a0_3, .slice (some ad145) l0_4.length c0_4, .slice A0_5 l0_5.length c0_5, .slice A0_6 l0_6.length c0_6] 27 (0, 0)) (by (with_reducible repeat (first | refine blk_drewN ?_ _ | refine blk_drew ?_ | refine blk_alloc ?_ _)); exact BK116.out) hb)
                                        have n2_ := Aside0.mk (blk_below (g := gb146) (o := .cells #[.string ((rd_T39 l0_4 x48_5).f0), .bool true, .string ((rd_T39 l0_4 x48_5).f2), .int .u32 ((rd_T39 l0_4 x48_5).f3)] 39 (0, 0)) (by (with_reducible repeat (first | refine blk_drewN ?_ _ | refine blk_drew ?_ | refine blk_alloc ?_ _)); exact BK146.out) hb)
                                        have n3_ := Aside0.mk (below_step (by repeat (first | (with_reducible first | exact HB.out | apply below_alloc | apply pw_below_drewN | apply below_drew1 | refine below_set ?_ GE116.out | refine below_set ?_ GE146.out) | exact HB.out)) hb)
                                        clear HO_3
                                        clear BK116
                                        clear BK146
                                        clear HB
                                        have HO_3 := n0_
                                        have BK116 := n1_
                                        have BK146 := n2_
                                        have HB := n3_
                                        clear n0_ n1_ n2_ n3_
                                        (try clear hb)
                                        (try clear hb2)
                                        (try clear hk)
                                        (try clear hi)
                                        refine hK.out _ _ ⟨(blk_cell BK146.out 0).trans rfl, (blk_cell BK146.out 1).trans rfl, (blk_cell BK146.out 2).trans rfl, (blk_cell BK146.out 3).trans rfl⟩ (fun hHeld => ?_)
                                        clear hK K
                                        refine norm_ (a' := ?_) ?_ ?_
                                        rotate_left
                                        · show Act.put _ (some 66) _ = _
                                          simp only [Act.put, List.setIfInBounds_toArray, List.set_cons_zero, List.set_cons_succ, i64_w, i32_w]
                                          rfl
                                        refine pure_ (i := 13) (N := some 67) (v := ?_) (a' := ?_) #[true, true, true, true, true, true, true, true, true, true, true, true, true, true, false, false, false] rfl rfl (any_of HT_.out (by kernel_rfl)) (fun _ _ _ h => h) (Or.inl ⟨by rfl, ?_⟩) ?_ ?_
                                        rotate_left
                                        · intro w'
                                          go_simp
                                          with_reducible rfl
                                        rotate_left
                                        · simp only [Act.put, List.setIfInBounds_toArray, List.set_cons_zero, List.set_cons_succ, i64_w, i32_w]
                                          rfl
                                        refine one_ (i := 14) (N := some 68) #[true, true, true, true, true, true, true, true, true, true, true, true, true, true, true, false, false] rfl rfl (one_of HT_.out (by kernel_rfl)) (by decide) (fun K hK => ?_)
                                        refine value_ (w1 := ?_) (v := ?_) (by rfl) rfl ?_ ?_
                                        rotate_left 2
                                        · go_simp
                                          constructor
                                          · rfl
                                          · rfl
                                        refine hK.out _ _ ⟨(blk_cell (blk_alloc BK146.out _) 0).trans rfl, (blk_cell (blk_alloc BK146.out _) 1).trans rfl, (blk_cell (blk_alloc BK146.out _) 2).trans rfl, (blk_cell (blk_alloc BK146.out _) 3).trans rfl⟩ (fun hHeld => ?_)
                                        clear hK K
                                        refine norm_ (a' := ?_) ?_ ?_
                                        rotate_left
                                        · show Act.put _ (some 68) _ = _
                                          simp only [Act.put, List.setIfInBounds_toArray, List.set_cons_zero, List.set_cons_succ, i64_w, i32_w]
                                          rfl
                                        refine one_ (i := 15) (N := some 69) #[true, true, true, true, true, true, true, true, true, true, true, true, true, true, true, true, false] rfl rfl (one_of HT_.out (by kernel_rfl)) (by decide) (fun K hK => ?_)
                                        refine Kd.R_append_step Kd.string (w0 := w) w.heap.size (by rfl) (.tmp 54) (.tmp 68) 25 9 (.string ⟨#[]⟩) 16 rfl Tryz.underlying25 info9 rfl (by decide) (by omega) u3 x3_5 ((((t147 ++ (⟨#[61]⟩ : ByteArray)) ++ t148) ++ (⟨#[64]⟩ : ByteArray)) ++ t149) [.string ((((t147 ++ (⟨#[61]⟩ : ByteArray)) ++ t148) ++ (⟨#[64]⟩ : ByteArray)) ++ t149)] (fun _ => True) (fun _ => False) rfl rfl ?aP (fun _ hk => hk.elim) ?aF ?aO ?aB ?aS ?aL ?_
                                        (case aP => exact rfl)
                                        (case aB => exact (by repeat (first | (with_reducible first | exact HB.out | apply below_alloc | apply pw_below_drewN | apply below_drew1 | refine below_set ?_ GE116.out | refine below_set ?_ GE146.out) | exact HB.out)))
                                        (case aF => exact (fun _ _ => trivial))
                                        (case aO => exact (by (with_reducible repeat (first | apply Kd.R_alloc | apply Kd.R_drewN | apply Kd.R_drew)); exact HO_3.out))
                                        (case aS => exact (below_size (by repeat (first | (with_reducible first | exact HB.out | apply below_alloc | apply pw_below_drewN | apply below_drew1 | refine below_set ?_ GE116.out | refine below_set ?_ GE146.out) | exact HB.out))))
                                        (case aL => have := LMc59.out; omega)
                                        intro v151 w68 ho hb hg hat
                                        rw [← Ny150.out] at ho
                                        have n0_ := Aside0.mk (blk_grown (g := gb116) (o := .cells #[.int .i64 a0_0, .int .i64 a0_1, .int .u32 a0_2, .int .i64 a0_3, .slice (some ad145) l0_4.length c0_4, .slice A0_5 l0_5.length c0_5, .slice A0_6 l0_6.length c0_6] 27 (0, 0)) (by (with_reducible repeat (first | refine blk_drewN ?_ _ | refine blk_drew ?_ | refine blk_alloc ?_ _)); exact BK116.out) hg (Kd.R_ne HO_3.out BK116.out (by decide)))
                                        have n1_ := Aside0.mk (blk_grown (g := gb146) (o := .cells #[.string ((rd_T39 l0_4 x48_5).f0), .bool true, .string ((rd_T39 l0_4 x48_5).f2), .int .u32 ((rd_T39 l0_4 x48_5).f3)] 39 (0, 0)) (by (with_reducible repeat (first | refine blk_drewN ?_ _ | refine blk_drew ?_ | refine blk_alloc ?_ _)); exact BK146.out) hg (Kd.R_ne HO_3.out BK146.out (by decide)))
                                        have n2_ := Aside0.mk (hb)
                                        have n3_ := Aside0.mk (ho)
                                        clear BK116
                                        clear BK146
                                        clear HB
                                        clear HO_3
                                        have BK116 := n0_
                                        have BK146 := n1_
                                        have HB := n2_
                                        have HO152 := n3_
                                        clear n0_ n1_ n2_ n3_
                                        clear ho hb hg hat
                                        refine hK.out _ _ ⟨(blk_cell BK146.out 0).trans rfl, (blk_cell BK146.out 1).trans rfl, (blk_cell BK146.out 2).trans rfl, (blk_cell BK146.out 3).trans rfl⟩ (fun hHeld => ?_)
                                        clear hK K
                                        refine norm_ (a' := ?_) ?_ ?_
                                        rotate_left
                                        · show Act.put _ (some 69) _ = _
                                          simp only [Act.put, List.setIfInBounds_toArray, List.set_cons_zero, List.set_cons_succ, i64_w, i32_w]
                                          rfl
                                        refine pure_ (i := 16) (N := some 3) (v := ?_) (a' := ?_) #[true, true, true, true, true, true, true, true, true, true, true, true, true, true, true, true, true] rfl rfl (any_of HT_.out (by kernel_rfl)) (fun _ _ _ h => h) (Or.inl ⟨by rfl, ?_⟩) ?_ ?_
                                        rotate_left
                                        · intro w'
                                          go_simp
                                          with_reducible rfl
                                        rotate_left
                                        · simp only [Act.put, List.setIfInBounds_toArray, List.set_cons_zero, List.set_cons_succ, i64_w, i32_w]
                                          rfl
                                        refine done_ (done_of HT_.out (by kernel_rfl)) ?_
                                        try go_wp2
                                        go_roundg k5
                                        case measure => have := HJ1.out; have := HJ12.out; have := HJ23.out; have := HJ34.out; have := HK5.out; omega
                                        case rel => exact ⟨(y150), (wrap64 (x48_5 + 1)), (by first | rfl | (simp; done) | (simp [*]; done)), H', ⟨by have := HJ1.out; have := HJ12.out; have := HJ23.out; have := HJ34.out; have := HK5.out; omega⟩, ⟨by (with_reducible repeat (first | apply Kd.R_alloc | apply Kd.R_drewN | apply Kd.R_drew)); exact HO152.out⟩, ⟨by (with_reducible repeat (first | refine blk_drewN ?_ _ | refine blk_drew ?_ | refine blk_alloc ?_ _)); exact BK116.out⟩, ⟨by repeat (first | (with_reducible first | exact HB.out | apply below_alloc | apply pw_below_drewN | apply below_drew1 | refine below_set ?_ GE116.out | refine below_set ?_ GE146.out) | exact HB.out)⟩⟩
                                      · rw [if_neg c59] at H
                                        exact absurd H (by simp)
                                    · rw [if_neg c58] at H
                                      exact absurd H (by simp)
                                  · rw [if_neg c56] at H
                                    exact absurd H (by simp)
                                · rw [if_neg c55] at H
                                  exact absurd H (by simp)
                              · rw [if_neg c53] at H
                                exact absurd H (by simp)
                            · replace c51 := Bool.eq_false_iff.mpr c51
                              subst c51
                              have H1 : ((word_Quote.f ((rd_T39 l0_4 x48_5).f0)).bind fun t153 => (if t153.size + 1 ≤ 9223372036854775807 then (if x3_5.length < 8796093022208 then (cachepot_Tell.l0 k5 (x3_5 ++ [t153 ++ (⟨#[63]⟩ : ByteArray)]) l0_4 (l0_4.length : Int) (wrap64 (x48_5 + 1)) a0_0 a0_1 a0_2 a0_3 l0_4 l0_5 l0_6) else (none)) else (none))) = some r := by rw [if_neg (show ¬ (false = true) by decide)] at H; exact H
                              clear H
                              have H := H1
                              clear H1
                              replace H := Option.bind_eq_some_iff.mp H
                              obtain ⟨t153, A690, H⟩ := H
                              replace H : (if t153.size + 1 ≤ 9223372036854775807 then (if x3_5.length < 8796093022208 then (cachepot_Tell.l0 k5 (x3_5 ++ [t153 ++ (⟨#[63]⟩ : ByteArray)]) l0_4 (l0_4.length : Int) (wrap64 (x48_5 + 1)) a0_0 a0_1 a0_2 a0_3 l0_4 l0_5 l0_6) else (none)) else (none)) = some r := H
                              have A69 := Aside0.mk A690
                              clear A690
                              by_cases c70 : t153.size + 1 ≤ 9223372036854775807
                              · rw [if_pos c70] at H
                                have c70b0 := eq_true c70
                                have c70b1 : decide (t153.size + 1 ≤ 9223372036854775807) = true := decide_eq_true c70
                                try have c70b2 : (9223372036854775807 < t153.size + 1) = False := eq_false (Nat.not_lt.2 c70)
                                by_cases c71 : x3_5.length < 8796093022208
                                · rw [if_pos c71] at H
                                  have LMc71 := Aside0.mk c71
                                  clear c71
                                  obtain ⟨y154, hy154⟩ : ∃ y_ : List ByteArray, y_ = (x3_5 ++ [t153 ++ (⟨#[63]⟩ : ByteArray)]) := ⟨_, rfl⟩
                                  replace H : (cachepot_Tell.l0 k5 y154 l0_4 (l0_4.length : Int) (wrap64 (x48_5 + 1)) a0_0 a0_1 a0_2 a0_3 l0_4 l0_5 l0_6) = some r := by first | (rw [hy154]; with_reducible exact H) | (have H2_ := (Option.bind_some _ _).symm.trans H; rw [hy154]; with_reducible exact H2_) | (have H2_ := (Option.bind_some _ _).symm.trans H; with_reducible exact H2_) | with_reducible exact H | (rw [hy154]; exact H) | exact H
                                  have Ny154 := Aside0.mk hy154
                                  clear hy154
                                  have H' := Aside0.mk H
                                  clear H
                                  have p145 : 0 ≤ (x48_5 : Int) := of_decide_eq_true (by first | (with_reducible assumption) | assumption)
                                  have q145 : x48_5 < (l0_4.length : Int) := of_decide_eq_true (by first | (with_reducible assumption) | assumption)
                                  obtain ⟨ad145, e145, hx145_0, hx145_1, hx145_2, hx145_3⟩ := at_T39 HR0_4.out x48_5 p145 q145
                                  (try rw [← Nbq50.out] at hx145_1)
                                  (try rw [← Nbq50.out] at hw145_1)
                                  cases e145
                                  replace hx145_0 := (HB.out.cell (World.block_lt_of_cell? w _ hx145_0)).trans hx145_0
                                  replace hx145_1 := (HB.out.cell (World.block_lt_of_cell? w _ hx145_1)).trans hx145_1
                                  replace hx145_2 := (HB.out.cell (World.block_lt_of_cell? w _ hx145_2)).trans hx145_2
                                  replace hx145_3 := (HB.out.cell (World.block_lt_of_cell? w _ hx145_3)).trans hx145_3
                                  replace p145 := eq_true p145
                                  replace q145 := eq_true q145
                                  go_wp2_with (first | ((with_reducible refine gate_dst (N := 5) rfl ?_); refine box_event ?hg (N := 5) ?hd (cs := #[.string (⟨#[]⟩ : ByteArray), .bool false, .string (⟨#[]⟩ : ByteArray), .int .u32 0]) (t := 39) ?hr ?_; (case hd => rfl); (case hg => rfl); (case hr => first | (go_simp; done) | (go_simp; rfl)); intro gb146 hg w72 hbox hb; have n0_ := Aside0.mk (Kd.R_below (by (with_reducible repeat (first | apply Kd.R_alloc | apply Kd.R_drewN | apply Kd.R_drew)); exact HO_3.out) hb); have n1_ := Aside0.mk (blk_below (g := gb116) (o := .cells #[.int .i64 a0_0, .int .i64 a0_1, .int .u32 a0_2, .int .i64 a0_3, .slice (some ad145) l0_4.length c0_4, .slice A0_5 l0_5.length c0_5, .slice A0_6 l0_6.length c0_6] 27 (0, 0)) (by (with_reducible repeat (first | refine blk_drewN ?_ _ | refine blk_drew ?_ | refine blk_alloc ?_ _)); exact BK116.out) hb); have n2_ := Aside0.mk (below_step (by repeat (first | (with_reducible first | exact HB.out | apply below_alloc | apply pw_below_drewN | apply below_drew1 | refine below_set ?_ GE116.out) | exact HB.out)) hb); have n3_ := Aside0.mk (hbox); have n4_ := Aside0.mk ((by rw [hg]; exact (below_size (by repeat (first | (with_reducible first | exact HB.out | apply below_alloc | apply pw_below_drewN | apply below_drew1 | refine below_set ?_ GE116.out) | exact HB.out))) : w.heap.size ≤ gb146)); have n5_ := Aside0.mk ((by rw [hg]; exact (below_size (by repeat (first | (with_reducible first | exact HB.out | apply below_alloc | apply pw_below_drewN | apply below_drew1 | refine below_set ?_ GE116.out) | exact HB.out))) : w.heap.size ≤ gb146)); have n6_ := Aside0.mk ((by rw [hg]; exact Nat.ne_of_lt (blk_lt (g := gb116) (o := .cells #[.int .i64 a0_0, .int .i64 a0_1, .int .u32 a0_2, .int .i64 a0_3, .slice (some ad145) l0_4.length c0_4, .slice A0_5 l0_5.length c0_5, .slice A0_6 l0_6.length c0_6] 27 (0, 0)) (by (with_reducible repeat (first | refine blk_drewN ?_ _ | refine blk_drew ?_ | refine blk_alloc ?_ _)); exact BK116.out)) : gb116 ≠ gb146)); have n7_ := Aside0.mk ((by rw [hg]; exact Nat.ne_of_gt (blk_lt (g := gb116) (o := .cells #[.int .i64 a0_0, .int .i64 a0_1, .int .u32 a0_2, .int .i64 a0_3, .slice (some ad145) l0_4.length c0_4, .slice A0_5 l0_5.length c0_5, .slice A0_6 l0_6.length c0_6] 27 (0, 0)) (by (with_reducible repeat (first | refine blk_drewN ?_ _ | refine blk_drew ?_ | refine blk_alloc ?_ _)); exact BK116.out)) : gb146 ≠ gb116)); clear HO_3; clear BK116; clear HB; have HO_3 := n0_; have BK116 := n1_; have HB := n2_; have BK146 := n3_; have GW146 := n4_; have GE146 := n5_; have NB116_146 := n6_; have NB146_116 := n7_; clear n0_ n1_ n2_ n3_ n4_ n5_ n6_ n7_; clear hb hbox hg; have hnb73 := NB146_116.out; have hnc73 := NB116_146.out; have hcz74_0 : w72.cell? ⟨gb146, 0, none⟩ = some (.string (⟨#[]⟩ : ByteArray)) := (blk_cell BK146.out 0).trans rfl; have hcz74_1 : w72.cell? ⟨gb146, 1, none⟩ = some (.bool false) := (blk_cell BK146.out 1).trans rfl; have hcz74_2 : w72.cell? ⟨gb146, 2, none⟩ = some (.string (⟨#[]⟩ : ByteArray)) := (blk_cell BK146.out 2).trans rfl; have hcz74_3 : w72.cell? ⟨gb146, 3, none⟩ = some (.int .u32 0) := (blk_cell BK146.out 3).trans rfl; have hfz74_0 := blk_frozen BK146.out 0; have hfz74_1 := blk_frozen BK146.out 1; have hfz74_2 := blk_frozen BK146.out 2; have hfz74_3 := blk_frozen BK146.out 3) | ((with_reducible refine gate_callee (f := 11) rfl ?_); refine goesL_ (some 73) rfl rfl Tryz.func11 (by kernel_rfl) rfl #[.string ((rd_T39 l0_4 x48_5).f0)] rfl (by (try simp only [List.map_toArray, List.map_cons, List.map_nil]); first | done | rfl | (simp only [List.length_drop, List.length_take]; rfl)) ?_; (with_reducible refine (word_Quote.calls ((rd_T39 l0_4 x48_5).f0) t153 _ A69.out (by first | exact hT | (refine Tabs.below hT ?_; (repeat (first | (with_reducible first | exact HB.out | exact Below.refl _ _ | apply below_alloc | apply pw_below_drewN | apply below_drew1 | exact GW146.out | refine Below.setCell ?_ ?_ _) | exact HB.out))))).mono ?_); rintro e w75 ⟨rfl, hb⟩; refine ⟨_, rfl, ?_⟩; have n0_ := Aside0.mk (Kd.R_below (by (with_reducible repeat (first | apply Kd.R_alloc | apply Kd.R_drewN | apply Kd.R_drew)); exact (Kd.R_mono (Kd.R_far (p := ⟨gb146, 3, none⟩) (Kd.R_far (p := ⟨gb146, 2, none⟩) (Kd.R_far (p := ⟨gb146, 1, none⟩) (Kd.R_far (p := ⟨gb146, 0, none⟩) (Kd.R_types HO_3.out BK146.out (by decide)) (fun _ hk => hk.2) (.string ((rd_T39 l0_4 x48_5).f0))) (fun _ hk => hk.2) (.bool false)) (fun _ hk => hk.2) (.string ((rd_T39 l0_4 x48_5).f2))) (fun _ hk => hk.2) (.int .u32 ((rd_T39 l0_4 x48_5).f3))) (fun _ h_ => h_.1))) hb); have n1_ := Aside0.mk (blk_below (g := gb116) (o := .cells #[.int .i64 a0_0, .int .i64 a0_1, .int .u32 a0_2, .int .i64 a0_3, .slice (some ad145) l0_4.length c0_4, .slice A0_5 l0_5.length c0_5, .slice A0_6 l0_6.length c0_6] 27 (0, 0)) (by (with_reducible repeat (first | refine blk_drewN ?_ _ | refine blk_drew ?_ | refine blk_alloc ?_ _)); refine blk_far ?_ NB116_146.out _; (with_reducible repeat (first | refine blk_drewN ?_ _ | refine blk_drew ?_ | refine blk_alloc ?_ _)); refine blk_far ?_ NB116_146.out _; (with_reducible repeat (first | refine blk_drewN ?_ _ | refine blk_drew ?_ | refine blk_alloc ?_ _)); refine blk_far ?_ NB116_146.out _; (with_reducible repeat (first | refine blk_drewN ?_ _ | refine blk_drew ?_ | refine blk_alloc ?_ _)); refine blk_far ?_ NB116_146.out _; (with_reducible repeat (first | refine blk_drewN ?_ _ | refine blk_drew ?_ | refine blk_alloc ?_ _)); exact BK116.out) hb); have n2_ := Aside0.mk (blk_below (g := gb146) (o := .cells #[.string ((rd_T39 l0_4 x48_5).f0), .bool false, .string ((rd_T39 l0_4 x48_5).f2), .int .u32 ((rd_T39 l0_4 x48_5).f3)] 39 (0, 0)) (by (with_reducible repeat (first | refine blk_drewN ?_ _ | refine blk_drew ?_ | refine blk_alloc ?_ _)); refine blk_put (cs := #[.string ((rd_T39 l0_4 x48_5).f0), .bool false, .string ((rd_T39 l0_4 x48_5).f2), .int .u32 0]) ?_ 3 _ rfl; (with_reducible repeat (first | refine blk_drewN ?_ _ | refine blk_drew ?_ | refine blk_alloc ?_ _)); refine blk_put (cs := #[.string ((rd_T39 l0_4 x48_5).f0), .bool false, .string (⟨#[]⟩ : ByteArray), .int .u32 0]) ?_ 2 _ rfl; (with_reducible repeat (first | refine blk_drewN ?_ _ | refine blk_drew ?_ | refine blk_alloc ?_ _)); refine blk_put (cs := #[.string ((rd_T39 l0_4 x48_5).f0), .bool false, .string (⟨#[]⟩ : ByteArray), .int .u32 0]) ?_ 1 _ rfl; (with_reducible repeat (first | refine blk_drewN ?_ _ | refine blk_drew ?_ | refine blk_alloc ?_ _)); refine blk_put (cs := #[.string (⟨#[]⟩ : ByteArray), .bool false, .string (⟨#[]⟩ : ByteArray), .int .u32 0]) ?_ 0 _ rfl; (with_reducible repeat (first | refine blk_drewN ?_ _ | refine blk_drew ?_ | refine blk_alloc ?_ _)); exact BK146.out) hb); have n3_ := Aside0.mk (below_step (by repeat (first | (with_reducible first | exact HB.out | apply below_alloc | apply pw_below_drewN | apply below_drew1 | refine below_set ?_ GE116.out | refine below_set ?_ GE146.out) | exact HB.out)) hb); clear HO_3; clear BK116; clear BK146; clear HB; have HO_3 := n0_; have BK116 := n1_; have BK146 := n2_; have HB := n3_; clear n0_ n1_ n2_ n3_; (try clear hb); (try clear hb2); (try clear hk); (try clear hi)) | ((with_reducible refine gate_builtin (b := .append) (xs := #[.tmp 70, .tmp 75]) rfl ?_); at_builtin; refine Kd.R_append Kd.string (w0 := w) w.heap.size rfl (.tmp 70) (.tmp 75) 25 9 (.string ⟨#[]⟩) 16 rfl Tryz.underlying25 info9 rfl (by decide) (by omega) u3 x3_5 (t153 ++ (⟨#[63]⟩ : ByteArray)) [.string (t153 ++ (⟨#[63]⟩ : ByteArray))] (fun _ => True) (fun _ => False) rfl rfl ?aP (fun _ hk => hk.elim) ?aF ?aO ?aB ?aS ?aL ?_; (case aP => exact rfl); (case aB => exact (by repeat (first | (with_reducible first | exact HB.out | apply below_alloc | apply pw_below_drewN | apply below_drew1 | refine below_set ?_ GE116.out | refine below_set ?_ GE146.out) | exact HB.out))); (case aF => exact (fun _ _ => trivial)); (case aO => exact (by (with_reducible repeat (first | apply Kd.R_alloc | apply Kd.R_drewN | apply Kd.R_drew)); exact HO_3.out)); (case aS => exact (below_size (by repeat (first | (with_reducible first | exact HB.out | apply below_alloc | apply pw_below_drewN | apply below_drew1 | refine below_set ?_ GE116.out | refine below_set ?_ GE146.out) | exact HB.out)))); (case aL => have := LMc71.out; omega); intro v155 w76 ho hb hg hat; rw [← Ny154.out] at ho; have n0_ := Aside0.mk (blk_grown (g := gb116) (o := .cells #[.int .i64 a0_0, .int .i64 a0_1, .int .u32 a0_2, .int .i64 a0_3, .slice (some ad145) l0_4.length c0_4, .slice A0_5 l0_5.length c0_5, .slice A0_6 l0_6.length c0_6] 27 (0, 0)) (by (with_reducible repeat (first | refine blk_drewN ?_ _ | refine blk_drew ?_ | refine blk_alloc ?_ _)); exact BK116.out) hg (Kd.R_ne HO_3.out BK116.out (by decide))); have n1_ := Aside0.mk (blk_grown (g := gb146) (o := .cells #[.string ((rd_T39 l0_4 x48_5).f0), .bool false, .string ((rd_T39 l0_4 x48_5).f2), .int .u32 ((rd_T39 l0_4 x48_5).f3)] 39 (0, 0)) (by (with_reducible repeat (first | refine blk_drewN ?_ _ | refine blk_drew ?_ | refine blk_alloc ?_ _)); exact BK146.out) hg (Kd.R_ne HO_3.out BK146.out (by decide))); have n2_ := Aside0.mk (hb); have n3_ := Aside0.mk (ho); clear BK116; clear BK146; clear HB; clear HO_3; have BK116 := n0_; have BK146 := n1_; have HB := n2_; have HO156 := n3_; clear n0_ n1_ n2_ n3_; clear ho hb hg hat))
                                  go_roundg k5
                                  case measure => have := HJ1.out; have := HJ12.out; have := HJ23.out; have := HJ34.out; have := HK5.out; omega
                                  case rel => exact ⟨(y154), (wrap64 (x48_5 + 1)), (by first | rfl | (simp; done) | (simp [*]; done)), H', ⟨by have := HJ1.out; have := HJ12.out; have := HJ23.out; have := HJ34.out; have := HK5.out; omega⟩, ⟨by (with_reducible repeat (first | apply Kd.R_alloc | apply Kd.R_drewN | apply Kd.R_drew)); exact HO156.out⟩, ⟨by (with_reducible repeat (first | refine blk_drewN ?_ _ | refine blk_drew ?_ | refine blk_alloc ?_ _)); exact BK116.out⟩, ⟨by repeat (first | (with_reducible first | exact HB.out | apply below_alloc | apply pw_below_drewN | apply below_drew1 | refine below_set ?_ GE116.out | refine below_set ?_ GE146.out) | exact HB.out)⟩⟩
                                · rw [if_neg c71] at H
                                  exact absurd H (by simp)
                              · rw [if_neg c70] at H
                                exact absurd H (by simp)
                          · rw [if_neg c49] at H
                            exact absurd H (by simp)
                        · rw [if_neg c48] at H
                          exact absurd H (by simp)
                      · rw [if_neg c47] at H
                        have c47b0 : decide (x48_5 < (l0_4.length : Int)) = false := decide_eq_false c47
                        clear c47
                        have H' := Aside0.mk H
                        clear H
                        have hcz77_0 : wr.cell? ⟨gb116, 0, none⟩ = some (.int .i64 a0_0) := (blk_cell BK116.out 0).trans rfl
                        have hcz77_1 : wr.cell? ⟨gb116, 1, none⟩ = some (.int .i64 a0_1) := (blk_cell BK116.out 1).trans rfl
                        have hcz77_2 : wr.cell? ⟨gb116, 2, none⟩ = some (.int .u32 a0_2) := (blk_cell BK116.out 2).trans rfl
                        have hcz77_3 : wr.cell? ⟨gb116, 3, none⟩ = some (.int .i64 a0_3) := (blk_cell BK116.out 3).trans rfl
                        have hcz77_4 : wr.cell? ⟨gb116, 4, none⟩ = some (.slice A0_4 l0_4.length c0_4) := (blk_cell BK116.out 4).trans rfl
                        have hcz77_5 : wr.cell? ⟨gb116, 5, none⟩ = some (.slice A0_5 l0_5.length c0_5) := (blk_cell BK116.out 5).trans rfl
                        have hcz77_6 : wr.cell? ⟨gb116, 6, none⟩ = some (.slice A0_6 l0_6.length c0_6) := (blk_cell BK116.out 6).trans rfl
                        have hfz77_0 := blk_frozen BK116.out 0
                        have hfz77_1 := blk_frozen BK116.out 1
                        have hfz77_2 := blk_frozen BK116.out 2
                        have hfz77_3 := blk_frozen BK116.out 3
                        have hfz77_4 := blk_frozen BK116.out 4
                        have hfz77_5 := blk_frozen BK116.out 5
                        have hfz77_6 := blk_frozen BK116.out 6
                        go_wp2
                        go_loopg [3, 81] k5 (fun kq v3 v81 w' => ∃ (x3_6 : List ByteArray) (x81_6 : Int), v81 = .int .i64 x81_6 ∧ Aside0 (cachepot_Tell.l1 kq x3_6 l0_5 (l0_5.length : Int) x81_6 a0_0 a0_1 a0_2 a0_3 l0_4 l0_5 l0_6 = some r) ∧ Aside0 (kq ≤ k5) ∧ Aside0 (Kd.R Kd.string 9 w' w.heap.size (fun _ => True) v3 x3_6) ∧ Aside0 (w'.heap[gb116]? = some (.cells #[.int .i64 a0_0, .int .i64 a0_1, .int .u32 a0_2, .int .i64 a0_3, (.slice A0_4 l0_4.length c0_4), (.slice A0_5 l0_5.length c0_5), (.slice A0_6 l0_6.length c0_6)] 27 (0, 0))) ∧ Aside0 (Below w.heap.size w w'))
                        case atStart => exact ⟨(x3_5), (0), (by first | rfl | (simp; done) | (simp [*]; done)), H', ⟨Nat.le_refl _⟩, ⟨by (with_reducible repeat (first | apply Kd.R_alloc | apply Kd.R_drewN | apply Kd.R_drew)); exact HO_3.out⟩, ⟨by (with_reducible repeat (first | refine blk_drewN ?_ _ | refine blk_drew ?_ | refine blk_alloc ?_ _)); exact BK116.out⟩, ⟨by repeat (first | (with_reducible first | exact HB.out | apply below_alloc | apply pw_below_drewN | apply below_drew1 | refine below_set ?_ GE116.out) | exact HB.out)⟩⟩
                        case round =>
                          clear H'
                          try clear c1
                          try clear p1
                          try clear q1
                          try clear hx1
                          try clear c2
                          try clear p2
                          try clear c3
                          try clear c4
                          try clear c5
                          try clear q5
                          try clear c6
                          try clear p6
                          try clear c7
                          try clear c7b0
                          try clear c7b1
                          try clear c9
                          try clear c10
                          try clear c11
                          try clear p14
                          try clear q14
                          try clear hx14
                          try clear c15
                          try clear c15b0
                          try clear c15b1
                          try clear c17
                          try clear c26
                          try clear c26b0
                          try clear c26b1
                          try clear c28
                          try clear c37
                          try clear c37b0
                          try clear c37b1
                          try clear c39
                          try clear c47
                          try clear c47b0
                          try clear c48
                          try clear c48b0
                          try clear c49
                          try clear c49b0
                          try clear q50
                          try clear c51
                          try clear c53
                          try clear c53b0
                          try clear c53b1
                          try clear c53b2
                          try clear c55
                          try clear c55b0
                          try clear c55b1
                          try clear c55b2
                          try clear c56
                          try clear c56b0
                          try clear c56b1
                          try clear c56b2
                          try clear c58
                          try clear c58b0
                          try clear c58b1
                          try clear c58b2
                          try clear c59
                          try clear c61
                          try clear p64
                          try clear c70
                          try clear c70b0
                          try clear c70b1
                          try clear c70b2
                          try clear c71
                          try clear c73
                          try clear hcz14_0
                          try clear hcz14_1
                          try clear hcz14_2
                          try clear hcz14_3
                          try clear hcz14_4
                          try clear hcz14_5
                          try clear hcz14_6
                          try clear hcz18_0
                          try clear hcz18_1
                          try clear hcz18_2
                          try clear hcz18_3
                          try clear hcz18_4
                          try clear hcz18_5
                          try clear hcz18_6
                          try clear hcz25_0
                          try clear hcz25_1
                          try clear hcz25_2
                          try clear hcz25_3
                          try clear hcz25_4
                          try clear hcz25_5
                          try clear hcz25_6
                          try clear hcz29_0
                          try clear hcz29_1
                          try clear hcz29_2
                          try clear hcz29_3
                          try clear hcz29_4
                          try clear hcz29_5
                          try clear hcz29_6
                          try clear hcz36_0
                          try clear hcz36_1
                          try clear hcz36_2
                          try clear hcz36_3
                          try clear hcz36_4
                          try clear hcz36_5
                          try clear hcz36_6
                          try clear hcz40_0
                          try clear hcz40_1
                          try clear hcz40_2
                          try clear hcz40_3
                          try clear hcz40_4
                          try clear hcz40_5
                          try clear hcz40_6
                          try clear hcz46_0
                          try clear hcz46_1
                          try clear hcz46_2
                          try clear hcz46_3
                          try clear hcz46_4
                          try clear hcz46_5
                          try clear hcz46_6
                          try clear hcz62_0
                          try clear hcz62_1
                          try clear hcz62_2
                          try clear hcz62_3
                          try clear hcz6_0
                          try clear hcz6_1
                          try clear hcz6_2
                          try clear hcz6_3
                          try clear hcz6_4
                          try clear hcz6_5
                          try clear hcz6_6
                          try clear hcz74_0
                          try clear hcz74_1
                          try clear hcz74_2
                          try clear hcz74_3
                          try clear hcz77_0
                          try clear hcz77_1
                          try clear hcz77_2
                          try clear hcz77_3
                          try clear hcz77_4
                          try clear hcz77_5
                          try clear hcz77_6
                          try clear hcz9_0
                          try clear hcz9_1
                          try clear hcz9_2
                          try clear hcz9_3
                          try clear hcz9_4
                          try clear hcz9_5
                          try clear hcz9_6
                          try clear hfz14_0
                          try clear hfz14_1
                          try clear hfz14_2
                          try clear hfz14_3
                          try clear hfz14_4
                          try clear hfz14_5
                          try clear hfz14_6
                          try clear hfz18_0
                          try clear hfz18_1
                          try clear hfz18_2
                          try clear hfz18_3
                          try clear hfz18_4
                          try clear hfz18_5
                          try clear hfz18_6
                          try clear hfz25_0
                          try clear hfz25_1
                          try clear hfz25_2
                          try clear hfz25_3
                          try clear hfz25_4
                          try clear hfz25_5
                          try clear hfz25_6
                          try clear hfz29_0
                          try clear hfz29_1
                          try clear hfz29_2
                          try clear hfz29_3
                          try clear hfz29_4
                          try clear hfz29_5
                          try clear hfz29_6
                          try clear hfz36_0
                          try clear hfz36_1
                          try clear hfz36_2
                          try clear hfz36_3
                          try clear hfz36_4
                          try clear hfz36_5
                          try clear hfz36_6
                          try clear hfz40_0
                          try clear hfz40_1
                          try clear hfz40_2
                          try clear hfz40_3
                          try clear hfz40_4
                          try clear hfz40_5
                          try clear hfz40_6
                          try clear hfz46_0
                          try clear hfz46_1
                          try clear hfz46_2
                          try clear hfz46_3
                          try clear hfz46_4
                          try clear hfz46_5
                          try clear hfz46_6
                          try clear hfz62_0
                          try clear hfz62_1
                          try clear hfz62_2
                          try clear hfz62_3
                          try clear hfz6_0
                          try clear hfz6_1
                          try clear hfz6_2
                          try clear hfz6_3
                          try clear hfz6_4
                          try clear hfz6_5
                          try clear hfz6_6
                          try clear hfz74_0
                          try clear hfz74_1
                          try clear hfz74_2
                          try clear hfz74_3
                          try clear hfz77_0
                          try clear hfz77_1
                          try clear hfz77_2
                          try clear hfz77_3
                          try clear hfz77_4
                          try clear hfz77_5
                          try clear hfz77_6
                          try clear hfz9_0
                          try clear hfz9_1
                          try clear hfz9_2
                          try clear hfz9_3
                          try clear hfz9_4
                          try clear hfz9_5
                          try clear hfz9_6
                          try clear hx145_0
                          try clear hx145_1
                          try clear hx145_2
                          try clear hx145_3
                          try clear p145
                          try clear p2
                          try clear q145
                          obtain ⟨x3_6, x81_6, rfl, HA, HK6, HO_3, BK116, HB⟩ := hrel
                          cases gk with
                          | zero => exact absurd HA.out (by simp [cachepot_Tell.l1])
                          | succ k6 =>
                            have H := HA.out
                            clear HA
                            simp only [cachepot_Tell.l1] at H
                            by_cases c78 : x81_6 < (l0_5.length : Int)
                            · rw [if_pos c78] at H
                              have c78b0 : decide (x81_6 < (l0_5.length : Int)) = true := decide_eq_true c78
                              clear c78
                              by_cases c79 : 0 ≤ x81_6
                              · rw [if_pos c79] at H
                                have c79b0 : decide (0 ≤ x81_6) = true := decide_eq_true c79
                                clear c79
                                by_cases c80 : x81_6 < (l0_5.length : Int)
                                · rw [if_pos c80] at H
                                  have c80b0 : decide (x81_6 < (l0_5.length : Int)) = true := decide_eq_true c80
                                  clear c80
                                  replace H := Option.bind_eq_some_iff.mp H
                                  obtain ⟨t158, A810, H⟩ := H
                                  replace H : (if x3_6.length < 8796093022208 then (cachepot_Tell.l1 k6 (x3_6 ++ [t158]) l0_5 (l0_5.length : Int) (wrap64 (x81_6 + 1)) a0_0 a0_1 a0_2 a0_3 l0_4 l0_5 l0_6) else (none)) = some r := H
                                  have A81 := Aside0.mk A810
                                  clear A810
                                  by_cases c82 : x3_6.length < 8796093022208
                                  · rw [if_pos c82] at H
                                    have LMc82 := Aside0.mk c82
                                    clear c82
                                    obtain ⟨y159, hy159⟩ : ∃ y_ : List ByteArray, y_ = (x3_6 ++ [t158]) := ⟨_, rfl⟩
                                    replace H : (cachepot_Tell.l1 k6 y159 l0_5 (l0_5.length : Int) (wrap64 (x81_6 + 1)) a0_0 a0_1 a0_2 a0_3 l0_4 l0_5 l0_6) = some r := by first | (rw [hy159]; with_reducible exact H) | (have H2_ := (Option.bind_some _ _).symm.trans H; rw [hy159]; with_reducible exact H2_) | (have H2_ := (Option.bind_some _ _).symm.trans H; with_reducible exact H2_) | with_reducible exact H | (rw [hy159]; exact H) | exact H
                                    have Ny159 := Aside0.mk hy159
                                    clear hy159
                                    have H' := Aside0.mk H
                                    clear H
                                    have p157 : 0 ≤ (x81_6 : Int) := of_decide_eq_true (by first | (with_reducible assumption) | assumption)
                                    have q157 : x81_6 < (l0_5.length : Int) := of_decide_eq_true (by first | (with_reducible assumption) | assumption)
                                    obtain ⟨ad157, e157, hx157_0⟩ := Kd.at_string HR0_5.out x81_6 p157 q157
                                    cases e157
                                    replace hx157_0 := (HB.out.cell (World.block_lt_of_cell? w _ hx157_0)).trans hx157_0
                                    replace p157 := eq_true p157
                                    replace q157 := eq_true q157
                                    go_wp2_with (first | ((with_reducible refine gate_callee (f := 11) rfl ?_); refine goesL_ (some 87) rfl rfl Tryz.func11 (by kernel_rfl) rfl #[.string (rdOf ByteArray.empty l0_5 x81_6)] rfl (by (try simp only [List.map_toArray, List.map_cons, List.map_nil]); first | done | rfl | (simp only [List.length_drop, List.length_take]; rfl)) ?_; (with_reducible refine (word_Quote.calls (rdOf ByteArray.empty l0_5 x81_6) t158 _ A81.out (by first | exact hT | (refine Tabs.below hT ?_; (repeat (first | (with_reducible first | exact HB.out | exact Below.refl _ _ | apply below_alloc | apply pw_below_drewN | apply below_drew1) | exact HB.out))))).mono ?_); rintro e w83 ⟨rfl, hb⟩; refine ⟨_, rfl, ?_⟩; have n0_ := Aside0.mk (Kd.R_below (by (with_reducible repeat (first | apply Kd.R_alloc | apply Kd.R_drewN | apply Kd.R_drew)); exact HO_3.out) hb); have n1_ := Aside0.mk (blk_below (g := gb116) (o := .cells #[.int .i64 a0_0, .int .i64 a0_1, .int .u32 a0_2, .int .i64 a0_3, .slice A0_4 l0_4.length c0_4, .slice (some ad157) l0_5.length c0_5, .slice A0_6 l0_6.length c0_6] 27 (0, 0)) (by (with_reducible repeat (first | refine blk_drewN ?_ _ | refine blk_drew ?_ | refine blk_alloc ?_ _)); exact BK116.out) hb); have n2_ := Aside0.mk (below_step (by repeat (first | (with_reducible first | exact HB.out | apply below_alloc | apply pw_below_drewN | apply below_drew1 | refine below_set ?_ GE116.out) | exact HB.out)) hb); clear HO_3; clear BK116; clear HB; have HO_3 := n0_; have BK116 := n1_; have HB := n2_; clear n0_ n1_ n2_; (try clear hb); (try clear hb2); (try clear hk); (try clear hi)) | ((with_reducible refine gate_builtin (b := .append) (xs := #[.tmp 85, .tmp 88]) rfl ?_); at_builtin; refine Kd.R_append Kd.string (w0 := w) w.heap.size rfl (.tmp 85) (.tmp 88) 25 9 (.string ⟨#[]⟩) 16 rfl Tryz.underlying25 info9 rfl (by decide) (by omega) u3 x3_6 t158 [.string t158] (fun _ => True) (fun _ => False) rfl rfl ?aP (fun _ hk => hk.elim) ?aF ?aO ?aB ?aS ?aL ?_; (case aP => exact rfl); (case aB => exact (by repeat (first | (with_reducible first | exact HB.out | apply below_alloc | apply pw_below_drewN | apply below_drew1 | refine below_set ?_ GE116.out) | exact HB.out))); (case aF => exact (fun _ _ => trivial)); (case aO => exact (by (with_reducible repeat (first | apply Kd.R_alloc | apply Kd.R_drewN | apply Kd.R_drew)); exact HO_3.out)); (case aS => exact (below_size (by repeat (first | (with_reducible first | exact HB.out | apply below_alloc | apply pw_below_drewN | apply below_drew1 | refine below_set ?_ GE116.out) | exact HB.out)))); (case aL => have := LMc82.out; omega); intro v160 w84 ho hb hg hat; rw [← Ny159.out] at ho; have n0_ := Aside0.mk (blk_grown (g := gb116) (o := .cells #[.int .i64 a0_0, .int .i64 a0_1, .int .u32 a0_2, .int .i64 a0_3, .slice A0_4 l0_4.length c0_4, .slice (some ad157) l0_5.length c0_5, .slice A0_6 l0_6.length c0_6] 27 (0, 0)) (by (with_reducible repeat (first | refine blk_drewN ?_ _ | refine blk_drew ?_ | refine blk_alloc ?_ _)); exact BK116.out) hg (Kd.R_ne HO_3.out BK116.out (by decide))); have n1_ := Aside0.mk (hb); have n2_ := Aside0.mk (ho); clear BK116; clear HB; clear HO_3; have BK116 := n0_; have HB := n1_; have HO161 := n2_; clear n0_ n1_ n2_; clear ho hb hg hat))
                                    go_roundg k6
                                    case measure => have := HJ1.out; have := HJ12.out; have := HJ23.out; have := HJ34.out; have := HK5.out; have := HK6.out; omega
                                    case rel => exact ⟨(y159), (wrap64 (x81_6 + 1)), (by first | rfl | (simp; done) | (simp [*]; done)), H', ⟨by have := HJ1.out; have := HJ12.out; have := HJ23.out; have := HJ34.out; have := HK5.out; have := HK6.out; omega⟩, ⟨by (with_reducible repeat (first | apply Kd.R_alloc | apply Kd.R_drewN | apply Kd.R_drew)); exact HO161.out⟩, ⟨by (with_reducible repeat (first | refine blk_drewN ?_ _ | refine blk_drew ?_ | refine blk_alloc ?_ _)); exact BK116.out⟩, ⟨by repeat (first | (with_reducible first | exact HB.out | apply below_alloc | apply pw_below_drewN | apply below_drew1 | refine below_set ?_ GE116.out) | exact HB.out)⟩⟩
                                  · rw [if_neg c82] at H
                                    exact absurd H (by simp)
                                · rw [if_neg c80] at H
                                  exact absurd H (by simp)
                              · rw [if_neg c79] at H
                                exact absurd H (by simp)
                            · rw [if_neg c78] at H
                              have c78b0 : decide (x81_6 < (l0_5.length : Int)) = false := decide_eq_false c78
                              clear c78
                              have HC85 := Aside0.mk H
                              clear H
                              have hcz86_0 : wr.cell? ⟨gb116, 0, none⟩ = some (.int .i64 a0_0) := (blk_cell BK116.out 0).trans rfl
                              have hcz86_1 : wr.cell? ⟨gb116, 1, none⟩ = some (.int .i64 a0_1) := (blk_cell BK116.out 1).trans rfl
                              have hcz86_2 : wr.cell? ⟨gb116, 2, none⟩ = some (.int .u32 a0_2) := (blk_cell BK116.out 2).trans rfl
                              have hcz86_3 : wr.cell? ⟨gb116, 3, none⟩ = some (.int .i64 a0_3) := (blk_cell BK116.out 3).trans rfl
                              have hcz86_4 : wr.cell? ⟨gb116, 4, none⟩ = some (.slice A0_4 l0_4.length c0_4) := (blk_cell BK116.out 4).trans rfl
                              have hcz86_5 : wr.cell? ⟨gb116, 5, none⟩ = some (.slice A0_5 l0_5.length c0_5) := (blk_cell BK116.out 5).trans rfl
                              have hcz86_6 : wr.cell? ⟨gb116, 6, none⟩ = some (.slice A0_6 l0_6.length c0_6) := (blk_cell BK116.out 6).trans rfl
                              have hfz86_0 := blk_frozen BK116.out 0
                              have hfz86_1 := blk_frozen BK116.out 1
                              have hfz86_2 := blk_frozen BK116.out 2
                              have hfz86_3 := blk_frozen BK116.out 3
                              have hfz86_4 := blk_frozen BK116.out 4
                              have hfz86_5 := blk_frozen BK116.out 5
                              have hfz86_6 := blk_frozen BK116.out 6
                              go_upto_if 94 with (fail)
                              go_cut [3] (fun v3 wc => ∃ (kq : Nat) (x3_84 : List ByteArray), Aside0 (cachepot_Tell.j6 kq x3_84 a0_0 a0_1 a0_2 a0_3 l0_4 l0_5 l0_6 = some r) ∧ Aside0 (kq ≤ k6) ∧ Aside0 (Kd.R Kd.string 9 wc w.heap.size (fun _ => True) v3 x3_84) ∧ Aside0 (wc.heap[gb116]? = some (.cells #[.int .i64 a0_0, .int .i64 a0_1, .int .u32 a0_2, .int .i64 a0_3, (.slice A0_4 l0_4.length c0_4), (.slice A0_5 l0_5.length c0_5), (.slice A0_6 l0_6.length c0_6)] 27 (0, 0))) ∧ Aside0 (Below w.heap.size w wc))
                              case first =>
                                have H := HC85.out
                                clear HC85
                                by_cases c87 : (l0_6.length : Int) > 0
                                · rw [if_pos c87] at H
                                  have c87b0 : decide (0 < (l0_6.length : Int)) = true := decide_eq_true c87
                                  have c87b1 : decide (0 < l0_6.length) = true := decide_eq_true (by omega)
                                  have c87b8 : (0 < l0_6.length) = True := eq_true (by omega)
                                  clear c87
                                  (first | rw [c87b0] | rw [c87b1] | simp only [c87b1] | (simp only [i64_w, i32_w]; rw [c87b0]) | skip)
                                  by_cases c88 : x3_6.length < 8796093022208
                                  · rw [if_pos c88] at H
                                    have LMc88 := Aside0.mk c88
                                    clear c88
                                    obtain ⟨y162, hy162⟩ : ∃ y_ : List ByteArray, y_ = (x3_6 ++ [(⟨#[102, 111, 114, 103, 111, 116]⟩ : ByteArray)]) := ⟨_, rfl⟩
                                    replace H : (cachepot_Tell.j6 k6 y162 a0_0 a0_1 a0_2 a0_3 l0_4 l0_5 l0_6) = some r := by first | (rw [hy162]; with_reducible exact H) | (have H2_ := (Option.bind_some _ _).symm.trans H; rw [hy162]; with_reducible exact H2_) | (have H2_ := (Option.bind_some _ _).symm.trans H; with_reducible exact H2_) | with_reducible exact H | (rw [hy162]; exact H) | exact H
                                    have Ny162 := Aside0.mk hy162
                                    clear hy162
                                    have H' := Aside0.mk H
                                    clear H
                                    go_wp2_with (first | ((with_reducible refine gate_builtin (b := .append) (xs := #[.tmp 95, .tmp 96]) rfl ?_); at_builtin; refine Kd.R_append Kd.string (w0 := w) w.heap.size rfl (.tmp 95) (.tmp 96) 25 9 (.string ⟨#[]⟩) 16 rfl Tryz.underlying25 info9 rfl (by decide) (by omega) u3 x3_6 (⟨#[102, 111, 114, 103, 111, 116]⟩ : ByteArray) [.string (⟨#[102, 111, 114, 103, 111, 116]⟩ : ByteArray)] (fun _ => True) (fun _ => False) rfl rfl ?aP (fun _ hk => hk.elim) ?aF ?aO ?aB ?aS ?aL ?_; (case aP => exact rfl); (case aB => exact (by repeat (first | (with_reducible first | exact HB.out | apply below_alloc | apply pw_below_drewN | apply below_drew1 | refine below_set ?_ GE116.out) | exact HB.out))); (case aF => exact (fun _ _ => trivial)); (case aO => exact (by (with_reducible repeat (first | apply Kd.R_alloc | apply Kd.R_drewN | apply Kd.R_drew)); exact HO_3.out)); (case aS => exact (below_size (by repeat (first | (with_reducible first | exact HB.out | apply below_alloc | apply pw_below_drewN | apply below_drew1 | refine below_set ?_ GE116.out) | exact HB.out)))); (case aL => have := LMc88.out; omega); intro v163 w89 ho hb hg hat; rw [← Ny162.out] at ho; have n0_ := Aside0.mk (blk_grown (g := gb116) (o := .cells #[.int .i64 a0_0, .int .i64 a0_1, .int .u32 a0_2, .int .i64 a0_3, .slice A0_4 l0_4.length c0_4, .slice A0_5 l0_5.length c0_5, .slice A0_6 l0_6.length c0_6] 27 (0, 0)) (by (with_reducible repeat (first | refine blk_drewN ?_ _ | refine blk_drew ?_ | refine blk_alloc ?_ _)); exact BK116.out) hg (Kd.R_ne HO_3.out BK116.out (by decide))); have n1_ := Aside0.mk (hb); have n2_ := Aside0.mk (ho); clear BK116; clear HB; clear HO_3; have BK116 := n0_; have HB := n1_; have HO164 := n2_; clear n0_ n1_ n2_; clear ho hb hg hat))
                                    go_meet
                                    case rel => exact ⟨_, (y162), H', ⟨by have := HJ1.out; have := HJ12.out; have := HJ23.out; have := HJ34.out; have := HK5.out; have := HK6.out; first | omega | exact Nat.le_refl _⟩, ⟨by (with_reducible repeat (first | apply Kd.R_alloc | apply Kd.R_drewN | apply Kd.R_drew)); exact HO164.out⟩, ⟨by (with_reducible repeat (first | refine blk_drewN ?_ _ | refine blk_drew ?_ | refine blk_alloc ?_ _)); exact BK116.out⟩, ⟨by repeat (first | (with_reducible first | exact HB.out | apply below_alloc | apply pw_below_drewN | apply below_drew1 | refine below_set ?_ GE116.out) | exact HB.out)⟩⟩
                                  · rw [if_neg c88] at H
                                    exact absurd H (by simp)
                                · rw [if_neg c87] at H
                                  have c87b0 : decide (0 < (l0_6.length : Int)) = false := decide_eq_false c87
                                  have c87b1 : decide (0 < l0_6.length) = false := decide_eq_false (by omega)
                                  have c87b8 : (0 < l0_6.length) = False := eq_false (by omega)
                                  clear c87
                                  (first | rw [c87b0] | rw [c87b1] | simp only [c87b1] | (simp only [i64_w, i32_w]; rw [c87b0]) | skip)
                                  have H' := Aside0.mk H
                                  clear H
                                  go_wp2
                                  go_meet
                                  case rel => exact ⟨_, (x3_6), H', ⟨by have := HJ1.out; have := HJ12.out; have := HJ23.out; have := HJ34.out; have := HK5.out; have := HK6.out; first | omega | exact Nat.le_refl _⟩, ⟨by (with_reducible repeat (first | apply Kd.R_alloc | apply Kd.R_drewN | apply Kd.R_drew)); exact HO_3.out⟩, ⟨by (with_reducible repeat (first | refine blk_drewN ?_ _ | refine blk_drew ?_ | refine blk_alloc ?_ _)); exact BK116.out⟩, ⟨by repeat (first | (with_reducible first | exact HB.out | apply below_alloc | apply pw_below_drewN | apply below_drew1 | refine below_set ?_ GE116.out) | exact HB.out)⟩⟩
                              case rest =>
                                clear HC85
                                try clear c1
                                try clear p1
                                try clear q1
                                try clear hx1
                                try clear c2
                                try clear p2
                                try clear c3
                                try clear c4
                                try clear c5
                                try clear q5
                                try clear c6
                                try clear p6
                                try clear c7
                                try clear c7b0
                                try clear c7b1
                                try clear c8
                                try clear c9
                                try clear c10
                                try clear c11
                                try clear p14
                                try clear q14
                                try clear hx14
                                try clear c15
                                try clear c15b0
                                try clear c15b1
                                try clear p15
                                try clear q15
                                try clear hx15
                                try clear c17
                                try clear c26
                                try clear c26b0
                                try clear c26b1
                                try clear c28
                                try clear c37
                                try clear c37b0
                                try clear c37b1
                                try clear c39
                                try clear c47
                                try clear c47b0
                                try clear c48
                                try clear c48b0
                                try clear c49
                                try clear c49b0
                                try clear q50
                                try clear c51
                                try clear c53
                                try clear c53b0
                                try clear c53b1
                                try clear c53b2
                                try clear c55
                                try clear c55b0
                                try clear c55b1
                                try clear c55b2
                                try clear c56
                                try clear c56b0
                                try clear c56b1
                                try clear c56b2
                                try clear c58
                                try clear c58b0
                                try clear c58b1
                                try clear c58b2
                                try clear c59
                                try clear c61
                                try clear p64
                                try clear c70
                                try clear c70b0
                                try clear c70b1
                                try clear c70b2
                                try clear c71
                                try clear c73
                                try clear c78
                                try clear c78b0
                                try clear c79
                                try clear c79b0
                                try clear c80
                                try clear c80b0
                                try clear c82
                                try clear c87
                                try clear c87b0
                                try clear c87b1
                                try clear c88
                                try clear hcz14_0
                                try clear hcz14_1
                                try clear hcz14_2
                                try clear hcz14_3
                                try clear hcz14_4
                                try clear hcz14_5
                                try clear hcz14_6
                                try clear hcz18_0
                                try clear hcz18_1
                                try clear hcz18_2
                                try clear hcz18_3
                                try clear hcz18_4
                                try clear hcz18_5
                                try clear hcz18_6
                                try clear hcz25_0
                                try clear hcz25_1
                                try clear hcz25_2
                                try clear hcz25_3
                                try clear hcz25_4
                                try clear hcz25_5
                                try clear hcz25_6
                                try clear hcz29_0
                                try clear hcz29_1
                                try clear hcz29_2
                                try clear hcz29_3
                                try clear hcz29_4
                                try clear hcz29_5
                                try clear hcz29_6
                                try clear hcz36_0
                                try clear hcz36_1
                                try clear hcz36_2
                                try clear hcz36_3
                                try clear hcz36_4
                                try clear hcz36_5
                                try clear hcz36_6
                                try clear hcz40_0
                                try clear hcz40_1
                                try clear hcz40_2
                                try clear hcz40_3
                                try clear hcz40_4
                                try clear hcz40_5
                                try clear hcz40_6
                                try clear hcz46_0
                                try clear hcz46_1
                                try clear hcz46_2
                                try clear hcz46_3
                                try clear hcz46_4
                                try clear hcz46_5
                                try clear hcz46_6
                                try clear hcz62_0
                                try clear hcz62_1
                                try clear hcz62_2
                                try clear hcz62_3
                                try clear hcz6_0
                                try clear hcz6_1
                                try clear hcz6_2
                                try clear hcz6_3
                                try clear hcz6_4
                                try clear hcz6_5
                                try clear hcz6_6
                                try clear hcz74_0
                                try clear hcz74_1
                                try clear hcz74_2
                                try clear hcz74_3
                                try clear hcz77_0
                                try clear hcz77_1
                                try clear hcz77_2
                                try clear hcz77_3
                                try clear hcz77_4
                                try clear hcz77_5
                                try clear hcz77_6
                                try clear hcz86_0
                                try clear hcz86_1
                                try clear hcz86_2
                                try clear hcz86_3
                                try clear hcz86_4
                                try clear hcz86_5
                                try clear hcz86_6
                                try clear hcz9_0
                                try clear hcz9_1
                                try clear hcz9_2
                                try clear hcz9_3
                                try clear hcz9_4
                                try clear hcz9_5
                                try clear hcz9_6
                                try clear hfz14_0
                                try clear hfz14_1
                                try clear hfz14_2
                                try clear hfz14_3
                                try clear hfz14_4
                                try clear hfz14_5
                                try clear hfz14_6
                                try clear hfz18_0
                                try clear hfz18_1
                                try clear hfz18_2
                                try clear hfz18_3
                                try clear hfz18_4
                                try clear hfz18_5
                                try clear hfz18_6
                                try clear hfz25_0
                                try clear hfz25_1
                                try clear hfz25_2
                                try clear hfz25_3
                                try clear hfz25_4
                                try clear hfz25_5
                                try clear hfz25_6
                                try clear hfz29_0
                                try clear hfz29_1
                                try clear hfz29_2
                                try clear hfz29_3
                                try clear hfz29_4
                                try clear hfz29_5
                                try clear hfz29_6
                                try clear hfz36_0
                                try clear hfz36_1
                                try clear hfz36_2
                                try clear hfz36_3
                                try clear hfz36_4
                                try clear hfz36_5
                                try clear hfz36_6
                                try clear hfz40_0
                                try clear hfz40_1
                                try clear hfz40_2
                                try clear hfz40_3
                                try clear hfz40_4
                                try clear hfz40_5
                                try clear hfz40_6
                                try clear hfz46_0
                                try clear hfz46_1
                                try clear hfz46_2
                                try clear hfz46_3
                                try clear hfz46_4
                                try clear hfz46_5
                                try clear hfz46_6
                                try clear hfz62_0
                                try clear hfz62_1
                                try clear hfz62_2
                                try clear hfz62_3
                                try clear hfz6_0
                                try clear hfz6_1
                                try clear hfz6_2
                                try clear hfz6_3
                                try clear hfz6_4
                                try clear hfz6_5
                                try clear hfz6_6
                                try clear hfz74_0
                                try clear hfz74_1
                                try clear hfz74_2
                                try clear hfz74_3
                                try clear hfz77_0
                                try clear hfz77_1
                                try clear hfz77_2
                                try clear hfz77_3
                                try clear hfz77_4
                                try clear hfz77_5
                                try clear hfz77_6
                                try clear hfz86_0
                                try clear hfz86_1
                                try clear hfz86_2
                                try clear hfz86_3
                                try clear hfz86_4
                                try clear hfz86_5
                                try clear hfz86_6
                                try clear hfz9_0
                                try clear hfz9_1
                                try clear hfz9_2
                                try clear hfz9_3
                                try clear hfz9_4
                                try clear hfz9_5
                                try clear hfz9_6
                                try clear hx145_0
                                try clear hx145_1
                                try clear hx145_2
                                try clear hx145_3
                                try clear hx157_0
                                try clear p1
                                try clear p14
                                try clear p145
                                try clear p157
                                try clear p2
                                try clear p6
                                try clear p64
                                try clear q1
                                try clear q14
                                try clear q145
                                try clear q157
                                try clear q5
                                try clear q50
                                obtain ⟨kq, x3_84, HA, HJ84, HO_3, BK116, HB⟩ := hcut
                                cases kq with
                                | zero => exact absurd HA.out (by simp [cachepot_Tell.j6])
                                | succ kj84 =>
                                  have H := HA.out
                                  clear HA
                                  simp only [cachepot_Tell.j6] at H
                                  have H' := Aside0.mk H
                                  clear H
                                  have hcz90_0 : wc.cell? ⟨gb116, 0, none⟩ = some (.int .i64 a0_0) := (blk_cell BK116.out 0).trans rfl
                                  have hcz90_1 : wc.cell? ⟨gb116, 1, none⟩ = some (.int .i64 a0_1) := (blk_cell BK116.out 1).trans rfl
                                  have hcz90_2 : wc.cell? ⟨gb116, 2, none⟩ = some (.int .u32 a0_2) := (blk_cell BK116.out 2).trans rfl
                                  have hcz90_3 : wc.cell? ⟨gb116, 3, none⟩ = some (.int .i64 a0_3) := (blk_cell BK116.out 3).trans rfl
                                  have hcz90_4 : wc.cell? ⟨gb116, 4, none⟩ = some (.slice A0_4 l0_4.length c0_4) := (blk_cell BK116.out 4).trans rfl
                                  have hcz90_5 : wc.cell? ⟨gb116, 5, none⟩ = some (.slice A0_5 l0_5.length c0_5) := (blk_cell BK116.out 5).trans rfl
                                  have hcz90_6 : wc.cell? ⟨gb116, 6, none⟩ = some (.slice A0_6 l0_6.length c0_6) := (blk_cell BK116.out 6).trans rfl
                                  have hfz90_0 := blk_frozen BK116.out 0
                                  have hfz90_1 := blk_frozen BK116.out 1
                                  have hfz90_2 := blk_frozen BK116.out 2
                                  have hfz90_3 := blk_frozen BK116.out 3
                                  have hfz90_4 := blk_frozen BK116.out 4
                                  have hfz90_5 := blk_frozen BK116.out 5
                                  have hfz90_6 := blk_frozen BK116.out 6
                                  go_wp2
                                  go_loopg [3, 101] kj84 (fun kq v3 v101 w' => ∃ (x3_8 : List ByteArray) (x101_8 : Int), v101 = .int .i64 x101_8 ∧ Aside0 (cachepot_Tell.l2 kq x3_8 l0_6 (l0_6.length : Int) x101_8 = some r) ∧ Aside0 (kq ≤ kj84) ∧ Aside0 (Kd.R Kd.string 9 w' w.heap.size (fun _ => True) v3 x3_8) ∧ Aside0 (w'.heap[gb116]? = some (.cells #[.int .i64 a0_0, .int .i64 a0_1, .int .u32 a0_2, .int .i64 a0_3, (.slice A0_4 l0_4.length c0_4), (.slice A0_5 l0_5.length c0_5), (.slice A0_6 l0_6.length c0_6)] 27 (0, 0))) ∧ Aside0 (Below w.heap.size w w'))
                                  case atStart => exact ⟨(x3_84), (0), (by first | rfl | (simp; done) | (simp [*]; done)), H', ⟨Nat.le_refl _⟩, ⟨by (with_reducible repeat (first | apply Kd.R_alloc | apply Kd.R_drewN | apply Kd.R_drew)); exact HO_3.out⟩, ⟨by (with_reducible repeat (first | refine blk_drewN ?_ _ | refine blk_drew ?_ | refine blk_alloc ?_ _)); exact BK116.out⟩, ⟨by repeat (first | (with_reducible first | exact HB.out | apply below_alloc | apply pw_below_drewN | apply below_drew1 | refine below_set ?_ GE116.out) | exact HB.out)⟩⟩
                                  case round =>
                                    clear H'
                                    try clear c1
                                    try clear p1
                                    try clear q1
                                    try clear hx1
                                    try clear c2
                                    try clear p2
                                    try clear c3
                                    try clear c4
                                    try clear c5
                                    try clear q5
                                    try clear c6
                                    try clear p6
                                    try clear c7
                                    try clear c7b0
                                    try clear c7b1
                                    try clear c8
                                    try clear c9
                                    try clear c10
                                    try clear c11
                                    try clear p14
                                    try clear q14
                                    try clear hx14
                                    try clear c15
                                    try clear c15b0
                                    try clear c15b1
                                    try clear p15
                                    try clear q15
                                    try clear hx15
                                    try clear c17
                                    try clear c26
                                    try clear c26b0
                                    try clear c26b1
                                    try clear c28
                                    try clear c37
                                    try clear c37b0
                                    try clear c37b1
                                    try clear c39
                                    try clear c47
                                    try clear c47b0
                                    try clear c48
                                    try clear c48b0
                                    try clear c49
                                    try clear c49b0
                                    try clear q50
                                    try clear c51
                                    try clear c53
                                    try clear c53b0
                                    try clear c53b1
                                    try clear c53b2
                                    try clear c55
                                    try clear c55b0
                                    try clear c55b1
                                    try clear c55b2
                                    try clear c56
                                    try clear c56b0
                                    try clear c56b1
                                    try clear c56b2
                                    try clear c58
                                    try clear c58b0
                                    try clear c58b1
                                    try clear c58b2
                                    try clear c59
                                    try clear c61
                                    try clear p64
                                    try clear c70
                                    try clear c70b0
                                    try clear c70b1
                                    try clear c70b2
                                    try clear c71
                                    try clear c73
                                    try clear c78
                                    try clear c78b0
                                    try clear c79
                                    try clear c79b0
                                    try clear c80
                                    try clear c80b0
                                    try clear c82
                                    try clear c87
                                    try clear c87b0
                                    try clear c87b1
                                    try clear c88
                                    try clear hcz14_0
                                    try clear hcz14_1
                                    try clear hcz14_2
                                    try clear hcz14_3
                                    try clear hcz14_4
                                    try clear hcz14_5
                                    try clear hcz14_6
                                    try clear hcz18_0
                                    try clear hcz18_1
                                    try clear hcz18_2
                                    try clear hcz18_3
                                    try clear hcz18_4
                                    try clear hcz18_5
                                    try clear hcz18_6
                                    try clear hcz25_0
                                    try clear hcz25_1
                                    try clear hcz25_2
                                    try clear hcz25_3
                                    try clear hcz25_4
                                    try clear hcz25_5
                                    try clear hcz25_6
                                    try clear hcz29_0
                                    try clear hcz29_1
                                    try clear hcz29_2
                                    try clear hcz29_3
                                    try clear hcz29_4
                                    try clear hcz29_5
                                    try clear hcz29_6
                                    try clear hcz36_0
                                    try clear hcz36_1
                                    try clear hcz36_2
                                    try clear hcz36_3
                                    try clear hcz36_4
                                    try clear hcz36_5
                                    try clear hcz36_6
                                    try clear hcz40_0
                                    try clear hcz40_1
                                    try clear hcz40_2
                                    try clear hcz40_3
                                    try clear hcz40_4
                                    try clear hcz40_5
                                    try clear hcz40_6
                                    try clear hcz46_0
                                    try clear hcz46_1
                                    try clear hcz46_2
                                    try clear hcz46_3
                                    try clear hcz46_4
                                    try clear hcz46_5
                                    try clear hcz46_6
                                    try clear hcz62_0
                                    try clear hcz62_1
                                    try clear hcz62_2
                                    try clear hcz62_3
                                    try clear hcz6_0
                                    try clear hcz6_1
                                    try clear hcz6_2
                                    try clear hcz6_3
                                    try clear hcz6_4
                                    try clear hcz6_5
                                    try clear hcz6_6
                                    try clear hcz74_0
                                    try clear hcz74_1
                                    try clear hcz74_2
                                    try clear hcz74_3
                                    try clear hcz77_0
                                    try clear hcz77_1
                                    try clear hcz77_2
                                    try clear hcz77_3
                                    try clear hcz77_4
                                    try clear hcz77_5
                                    try clear hcz77_6
                                    try clear hcz86_0
                                    try clear hcz86_1
                                    try clear hcz86_2
                                    try clear hcz86_3
                                    try clear hcz86_4
                                    try clear hcz86_5
                                    try clear hcz86_6
                                    try clear hcz90_0
                                    try clear hcz90_1
                                    try clear hcz90_2
                                    try clear hcz90_3
                                    try clear hcz90_4
                                    try clear hcz90_5
                                    try clear hcz90_6
                                    try clear hcz9_0
                                    try clear hcz9_1
                                    try clear hcz9_2
                                    try clear hcz9_3
                                    try clear hcz9_4
                                    try clear hcz9_5
                                    try clear hcz9_6
                                    try clear hfz14_0
                                    try clear hfz14_1
                                    try clear hfz14_2
                                    try clear hfz14_3
                                    try clear hfz14_4
                                    try clear hfz14_5
                                    try clear hfz14_6
                                    try clear hfz18_0
                                    try clear hfz18_1
                                    try clear hfz18_2
                                    try clear hfz18_3
                                    try clear hfz18_4
                                    try clear hfz18_5
                                    try clear hfz18_6
                                    try clear hfz25_0
                                    try clear hfz25_1
                                    try clear hfz25_2
                                    try clear hfz25_3
                                    try clear hfz25_4
                                    try clear hfz25_5
                                    try clear hfz25_6
                                    try clear hfz29_0
                                    try clear hfz29_1
                                    try clear hfz29_2
                                    try clear hfz29_3
                                    try clear hfz29_4
                                    try clear hfz29_5
                                    try clear hfz29_6
                                    try clear hfz36_0
                                    try clear hfz36_1
                                    try clear hfz36_2
                                    try clear hfz36_3
                                    try clear hfz36_4
                                    try clear hfz36_5
                                    try clear hfz36_6
                                    try clear hfz40_0
                                    try clear hfz40_1
                                    try clear hfz40_2
                                    try clear hfz40_3
                                    try clear hfz40_4
                                    try clear hfz40_5
                                    try clear hfz40_6
                                    try clear hfz46_0
                                    try clear hfz46_1
                                    try clear hfz46_2
                                    try clear hfz46_3
                                    try clear hfz46_4
                                    try clear hfz46_5
                                    try clear hfz46_6
                                    try clear hfz62_0
                                    try clear hfz62_1
                                    try clear hfz62_2
                                    try clear hfz62_3
                                    try clear hfz6_0
                                    try clear hfz6_1
                                    try clear hfz6_2
                                    try clear hfz6_3
                                    try clear hfz6_4
                                    try clear hfz6_5
                                    try clear hfz6_6
                                    try clear hfz74_0
                                    try clear hfz74_1
                                    try clear hfz74_2
                                    try clear hfz74_3
                                    try clear hfz77_0
                                    try clear hfz77_1
                                    try clear hfz77_2
                                    try clear hfz77_3
                                    try clear hfz77_4
                                    try clear hfz77_5
                                    try clear hfz77_6
                                    try clear hfz86_0
                                    try clear hfz86_1
                                    try clear hfz86_2
                                    try clear hfz86_3
                                    try clear hfz86_4
                                    try clear hfz86_5
                                    try clear hfz86_6
                                    try clear hfz90_0
                                    try clear hfz90_1
                                    try clear hfz90_2
                                    try clear hfz90_3
                                    try clear hfz90_4
                                    try clear hfz90_5
                                    try clear hfz90_6
                                    try clear hfz9_0
                                    try clear hfz9_1
                                    try clear hfz9_2
                                    try clear hfz9_3
                                    try clear hfz9_4
                                    try clear hfz9_5
                                    try clear hfz9_6
                                    try clear hx145_0
                                    try clear hx145_1
                                    try clear hx145_2
                                    try clear hx145_3
                                    try clear hx157_0
                                    try clear p1
                                    try clear p14
                                    try clear p145
                                    try clear p15
                                    try clear p157
                                    try clear p2
                                    try clear p6
                                    try clear p64
                                    try clear q1
                                    try clear q14
                                    try clear q145
                                    try clear q15
                                    try clear q157
                                    try clear q5
                                    try clear q50
                                    obtain ⟨x3_8, x101_8, rfl, HA, HK8, HO_3, BK116, HB⟩ := hrel
                                    cases gk with
                                    | zero => exact absurd HA.out (by simp [cachepot_Tell.l2])
                                    | succ k8 =>
                                      have H := HA.out
                                      clear HA
                                      simp only [cachepot_Tell.l2] at H
                                      by_cases c91 : x101_8 < (l0_6.length : Int)
                                      · rw [if_pos c91] at H
                                        have c91b0 : decide (x101_8 < (l0_6.length : Int)) = true := decide_eq_true c91
                                        clear c91
                                        by_cases c92 : 0 ≤ x101_8
                                        · rw [if_pos c92] at H
                                          have c92b0 : decide (0 ≤ x101_8) = true := decide_eq_true c92
                                          clear c92
                                          by_cases c93 : x101_8 < (l0_6.length : Int)
                                          · rw [if_pos c93] at H
                                            have c93b0 : decide (x101_8 < (l0_6.length : Int)) = true := decide_eq_true c93
                                            clear c93
                                            replace H := Option.bind_eq_some_iff.mp H
                                            obtain ⟨t166, A940, H⟩ := H
                                            replace H : (if x3_8.length < 8796093022208 then (cachepot_Tell.l2 k8 (x3_8 ++ [t166]) l0_6 (l0_6.length : Int) (wrap64 (x101_8 + 1))) else (none)) = some r := H
                                            have A94 := Aside0.mk A940
                                            clear A940
                                            by_cases c95 : x3_8.length < 8796093022208
                                            · rw [if_pos c95] at H
                                              have LMc95 := Aside0.mk c95
                                              clear c95
                                              obtain ⟨y167, hy167⟩ : ∃ y_ : List ByteArray, y_ = (x3_8 ++ [t166]) := ⟨_, rfl⟩
                                              replace H : (cachepot_Tell.l2 k8 y167 l0_6 (l0_6.length : Int) (wrap64 (x101_8 + 1))) = some r := by first | (rw [hy167]; with_reducible exact H) | (have H2_ := (Option.bind_some _ _).symm.trans H; rw [hy167]; with_reducible exact H2_) | (have H2_ := (Option.bind_some _ _).symm.trans H; with_reducible exact H2_) | with_reducible exact H | (rw [hy167]; exact H) | exact H
                                              have Ny167 := Aside0.mk hy167
                                              clear hy167
                                              have H' := Aside0.mk H
                                              clear H
                                              have p165 : 0 ≤ (x101_8 : Int) := of_decide_eq_true (by first | (with_reducible assumption) | assumption)
                                              have q165 : x101_8 < (l0_6.length : Int) := of_decide_eq_true (by first | (with_reducible assumption) | assumption)
                                              obtain ⟨ad165, e165, hx165_0⟩ := Kd.at_string HR0_6.out x101_8 p165 q165
                                              cases e165
                                              replace hx165_0 := (HB.out.cell (World.block_lt_of_cell? w _ hx165_0)).trans hx165_0
                                              replace p165 := eq_true p165
                                              replace q165 := eq_true q165
                                              go_wp2_with (first | ((with_reducible refine gate_callee (f := 11) rfl ?_); refine goesL_ (some 107) rfl rfl Tryz.func11 (by kernel_rfl) rfl #[.string (rdOf ByteArray.empty l0_6 x101_8)] rfl (by (try simp only [List.map_toArray, List.map_cons, List.map_nil]); first | done | rfl | (simp only [List.length_drop, List.length_take]; rfl)) ?_; (with_reducible refine (word_Quote.calls (rdOf ByteArray.empty l0_6 x101_8) t166 _ A94.out (by first | exact hT | (refine Tabs.below hT ?_; (repeat (first | (with_reducible first | exact HB.out | exact Below.refl _ _ | apply below_alloc | apply pw_below_drewN | apply below_drew1) | exact HB.out))))).mono ?_); rintro e w96 ⟨rfl, hb⟩; refine ⟨_, rfl, ?_⟩; have n0_ := Aside0.mk (Kd.R_below (by (with_reducible repeat (first | apply Kd.R_alloc | apply Kd.R_drewN | apply Kd.R_drew)); exact HO_3.out) hb); have n1_ := Aside0.mk (blk_below (g := gb116) (o := .cells #[.int .i64 a0_0, .int .i64 a0_1, .int .u32 a0_2, .int .i64 a0_3, .slice A0_4 l0_4.length c0_4, .slice A0_5 l0_5.length c0_5, .slice (some ad165) l0_6.length c0_6] 27 (0, 0)) (by (with_reducible repeat (first | refine blk_drewN ?_ _ | refine blk_drew ?_ | refine blk_alloc ?_ _)); exact BK116.out) hb); have n2_ := Aside0.mk (below_step (by repeat (first | (with_reducible first | exact HB.out | apply below_alloc | apply pw_below_drewN | apply below_drew1 | refine below_set ?_ GE116.out) | exact HB.out)) hb); clear HO_3; clear BK116; clear HB; have HO_3 := n0_; have BK116 := n1_; have HB := n2_; clear n0_ n1_ n2_; (try clear hb); (try clear hb2); (try clear hk); (try clear hi)) | ((with_reducible refine gate_builtin (b := .append) (xs := #[.tmp 105, .tmp 108]) rfl ?_); at_builtin; refine Kd.R_append Kd.string (w0 := w) w.heap.size rfl (.tmp 105) (.tmp 108) 25 9 (.string ⟨#[]⟩) 16 rfl Tryz.underlying25 info9 rfl (by decide) (by omega) u3 x3_8 t166 [.string t166] (fun _ => True) (fun _ => False) rfl rfl ?aP (fun _ hk => hk.elim) ?aF ?aO ?aB ?aS ?aL ?_; (case aP => exact rfl); (case aB => exact (by repeat (first | (with_reducible first | exact HB.out | apply below_alloc | apply pw_below_drewN | apply below_drew1 | refine below_set ?_ GE116.out) | exact HB.out))); (case aF => exact (fun _ _ => trivial)); (case aO => exact (by (with_reducible repeat (first | apply Kd.R_alloc | apply Kd.R_drewN | apply Kd.R_drew)); exact HO_3.out)); (case aS => exact (below_size (by repeat (first | (with_reducible first | exact HB.out | apply below_alloc | apply pw_below_drewN | apply below_drew1 | refine below_set ?_ GE116.out) | exact HB.out)))); (case aL => have := LMc95.out; omega); intro v168 w97 ho hb hg hat; rw [← Ny167.out] at ho; have n0_ := Aside0.mk (blk_grown (g := gb116) (o := .cells #[.int .i64 a0_0, .int .i64 a0_1, .int .u32 a0_2, .int .i64 a0_3, .slice A0_4 l0_4.length c0_4, .slice A0_5 l0_5.length c0_5, .slice (some ad165) l0_6.length c0_6] 27 (0, 0)) (by (with_reducible repeat (first | refine blk_drewN ?_ _ | refine blk_drew ?_ | refine blk_alloc ?_ _)); exact BK116.out) hg (Kd.R_ne HO_3.out BK116.out (by decide))); have n1_ := Aside0.mk (hb); have n2_ := Aside0.mk (ho); clear BK116; clear HB; clear HO_3; have BK116 := n0_; have HB := n1_; have HO169 := n2_; clear n0_ n1_ n2_; clear ho hb hg hat))
                                              go_roundg k8
                                              case measure => have := HJ1.out; have := HJ12.out; have := HJ23.out; have := HJ34.out; have := HK5.out; have := HK6.out; have := HJ84.out; have := HK8.out; omega
                                              case rel => exact ⟨(y167), (wrap64 (x101_8 + 1)), (by first | rfl | (simp; done) | (simp [*]; done)), H', ⟨by have := HJ1.out; have := HJ12.out; have := HJ23.out; have := HJ34.out; have := HK5.out; have := HK6.out; have := HJ84.out; have := HK8.out; omega⟩, ⟨by (with_reducible repeat (first | apply Kd.R_alloc | apply Kd.R_drewN | apply Kd.R_drew)); exact HO169.out⟩, ⟨by (with_reducible repeat (first | refine blk_drewN ?_ _ | refine blk_drew ?_ | refine blk_alloc ?_ _)); exact BK116.out⟩, ⟨by repeat (first | (with_reducible first | exact HB.out | apply below_alloc | apply pw_below_drewN | apply below_drew1 | refine below_set ?_ GE116.out) | exact HB.out)⟩⟩
                                            · rw [if_neg c95] at H
                                              exact absurd H (by simp)
                                          · rw [if_neg c93] at H
                                            exact absurd H (by simp)
                                        · rw [if_neg c92] at H
                                          exact absurd H (by simp)
                                      · rw [if_neg c91] at H
                                        have c91b0 : decide (x101_8 < (l0_6.length : Int)) = false := decide_eq_false c91
                                        clear c91
                                        replace H := Option.bind_eq_some_iff.mp H
                                        obtain ⟨t170, A980, H⟩ := H
                                        replace H : (some t170) = some r := H
                                        have A98 := Aside0.mk A980
                                        clear A980
                                        obtain rfl := Option.some.inj H
                                        obtain ⟨Ao99, co99, eo99⟩ := Kd.R_slice HO_3.out
                                        subst eo99
                                        go_wp2_with (first | ((with_reducible refine gate_callee (f := 12) rfl ?_); refine goesL_ (some 112) rfl rfl Tryz.func12 (by kernel_rfl) rfl #[.slice Ao99 x3_8.length co99, .string (⟨#[32]⟩ : ByteArray)] rfl (by (try simp only [List.map_toArray, List.map_cons, List.map_nil]); first | done | rfl | (simp only [List.length_drop, List.length_take]; rfl)) ?_; (with_reducible refine (strings_Join.calls _ _ x3_8 (⟨#[32]⟩ : ByteArray) t170 _ ?side1 ?side2 A98.out).mono ?_); (case side1 => repeat (first | exact (Kd.R_reads' HO_3.out).2.2 | (with_reducible refine Kd.C_alloc ?_ _) | (with_reducible refine Kd.C_drewN ?_ _) | (with_reducible refine Kd.C_drew ?_))); (case side2 => exact (Kd.R_reads' HO_3.out).2.1); rintro e w100 ⟨rfl, hb⟩; refine ⟨_, rfl, ?_⟩; have n0_ := Aside0.mk (Kd.R_below (by (with_reducible repeat (first | apply Kd.R_alloc | apply Kd.R_drewN | apply Kd.R_drew)); exact HO_3.out) hb); have n1_ := Aside0.mk (blk_below (g := gb116) (o := .cells #[.int .i64 a0_0, .int .i64 a0_1, .int .u32 a0_2, .int .i64 a0_3, .slice A0_4 l0_4.length c0_4, .slice A0_5 l0_5.length c0_5, .slice A0_6 l0_6.length c0_6] 27 (0, 0)) (by (with_reducible repeat (first | refine blk_drewN ?_ _ | refine blk_drew ?_ | refine blk_alloc ?_ _)); exact BK116.out) hb); have n2_ := Aside0.mk (below_step (by repeat (first | (with_reducible first | exact HB.out | apply below_alloc | apply pw_below_drewN | apply below_drew1 | refine below_set ?_ GE116.out) | exact HB.out)) hb); clear HO_3; clear BK116; clear HB; have HO_3 := n0_; have BK116 := n1_; have HB := n2_; clear n0_ n1_ n2_; (try clear hb); (try clear hb2); (try clear hk); (try clear hi)))
                                        go_ret
                                        exact ⟨by first | rfl | (simp [errW_none, errW_some] <;> rfl) | (simp [*, errW_none, errW_some] <;> rfl), by repeat (first | (with_reducible first | exact HB.out | apply below_alloc | apply pw_below_drewN | apply below_drew1 | refine below_set ?_ GE116.out) | exact HB.out)⟩
end Go.Proofs.YtkehbnkfgbcpnaaGreatDoor.Wd
end

section
namespace Go.Proofs.YtkehbnkfgbcpnaaGreatDoor.Wd
open Go.RowKit Go.Proofs.YtkehbnkfgbcpnaaGreatDoorW.PrintWords Go.Proofs.YtkehbnkfgbcpnaaGreatDoorW.PrintLast Go.Proofs.YtkehbnkfgbcpnaaGreatDoorW.PrintMore
attribute [local go_sem] max2_int min2_int max_two min_two max_three min_three max_four min_four   -- for this text's walks alone
set_option linter.unusedVariables false
set_option linter.unusedSimpArgs false
def cachepotref3_Digits.f : Nat → Int → Option (ByteArray)
  | 0, _ => none
  | k + 1, a0 => if a0 ≤ (-10) then ((cachepotref3_Digits.f k (wrap64 (Int.tdiv a0 10))).bind fun t171 => ((some (([(wrap64 (48 - (Int.tmod a0 10))) % 256] : List Int) : List Int)).bind fun y172 => (if t171.size + (strOfNums y172).size ≤ 9223372036854775807 then (some (t171 ++ (strOfNums y172))) else (none)))) else (if a0 < 0 then ((some (([(wrap64 (48 - a0)) % 256] : List Int) : List Int)).bind fun y175 => (if 1 + (strOfNums y175).size ≤ 9223372036854775807 then (some ((⟨#[45]⟩ : ByteArray) ++ (strOfNums y175))) else (none))) else (if a0 < 10 then (some (strOfNums (([(wrap64 (48 + a0)) % 256] : List Int)))) else ((cachepotref3_Digits.f k (wrap64 (Int.tdiv a0 10))).bind fun t181 => ((cachepotref3_Digits.f k (Int.tmod a0 10)).bind fun t182 => (if t181.size + t182.size ≤ 9223372036854775807 then (some (t181 ++ t182)) else (none))))))
theorem cachepotref3_Digits.mono_l : ∀ k, (∀ y0, LeO (cachepotref3_Digits.f k y0) (cachepotref3_Digits.f (k + 1) y0))
  | 0 => fun _ r h => by simp [cachepotref3_Digits.f] at h
  | k + 1 => by
    have ih0 := cachepotref3_Digits.mono_l k
    · intro y0
      unfold cachepotref3_Digits.f
      repeat' first
      | (with_reducible exact ih0 _)
      | (with_reducible exact LeO.refl _)
      | (with_reducible exact LeO.none _)
      | (with_reducible refine LeO.ite ?_ ?_)
      | (with_reducible refine LeO.bind ?_ (fun _ => ?_))
      | exact ih0 _
      | exact LeO.none _
      | refine LeO.ite ?_ ?_
      | refine LeO.bind ?_ (fun _ => ?_)
theorem cachepotref3_Digits.mono : ∀ a0 k, LeO (cachepotref3_Digits.f k a0) (cachepotref3_Digits.f (k + 1) a0) := by
  intro a0 k
  have ih0 := cachepotref3_Digits.mono_l k
  exact ih0 a0
def cachepotref3_Digits.T2 : Bool × List (List Nat × List Nat) := (true, [([], []), ([0], [0]), ([1], [1]), ([], []), ([3], [3]), ([4], [4]), ([5], [5]), ([6], [6]), ([7], [7]), ([2, 8], [2, 8]), ([9, 2, 0, 1, 2, 3, 4, 5, 6, 7, 8, 9], [9])])
def cachepotref3_Digits.B2 : List Nat := [0, 1, 3, 0, 8, 24, 56, 120, 248, 511, 1023]
theorem cachepotref3_Digits.tab2 : rtab .any (opsOf Tryz.f13 2) = cachepotref3_Digits.T2 := by kernel_rfl
theorem cachepotref3_Digits.bits2 : waitsOk cachepotref3_Digits.T2.2 cachepotref3_Digits.B2 = true := by kernel_rfl
set_option maxHeartbeats 8000000 in
set_option maxRecDepth 100000 in
theorem cachepotref3_Digits.calls (k : Nat) : ∀ (a0 : Int) (r : ByteArray) (w : World) (h : cachepotref3_Digits.f k a0 = some r),
    Calls Tryz.prog 13 #[.int .i64 a0] w fun e w' => e = .returned (.string r) ∧ Below w.heap.size w w' := by
  induction k using Nat.strongRecOn with
  | _ k ih =>
  intro a0 r w h
  cases k with
  | zero => exact absurd h (by simp [cachepotref3_Digits.f])
  | succ k =>
  simp only [cachepotref3_Digits.f] at h
  have HB := Aside0.mk (Below.refl w.heap.size w)
  have H : (if a0 ≤ (-10) then ((cachepotref3_Digits.f k (wrap64 (Int.tdiv a0 10))).bind fun t171 => ((some (([(wrap64 (48 - (Int.tmod a0 10))) % 256] : List Int) : List Int)).bind fun y172 => (if t171.size + (strOfNums y172).size ≤ 9223372036854775807 then (some (t171 ++ (strOfNums y172))) else (none)))) else (if a0 < 0 then ((some (([(wrap64 (48 - a0)) % 256] : List Int) : List Int)).bind fun y175 => (if 1 + (strOfNums y175).size ≤ 9223372036854775807 then (some ((⟨#[45]⟩ : ByteArray) ++ (strOfNums y175))) else (none))) else (if a0 < 10 then (some (strOfNums (([(wrap64 (48 + a0)) % 256] : List Int)))) else ((cachepotref3_Digits.f k (wrap64 (Int.tdiv a0 10))).bind fun t181 => ((cachepotref3_Digits.f k (Int.tmod a0 10)).bind fun t182 => (if t181.size + t182.size ≤ 9223372036854775807 then (some (t181 ++ t182)) else (none))))))) = some r := h
  clear h
  by_cases c2 : a0 ≤ (-10)
  · rw [if_pos c2] at H
    have c2b0 : decide (a0 ≤ (-10)) = true := decide_eq_true c2
    clear c2
    replace H := Option.bind_eq_some_iff.mp H
    obtain ⟨t171, A30, H⟩ := H
    replace H : ((some (([(wrap64 (48 - (Int.tmod a0 10))) % 256] : List Int) : List Int)).bind fun y172 => (if t171.size + (strOfNums y172).size ≤ 9223372036854775807 then (some (t171 ++ (strOfNums y172))) else (none))) = some r := H
    have A3 := Aside0.mk A30
    clear A30
    obtain ⟨y172, hy172⟩ : ∃ y_ : List Int, y_ = (([(wrap64 (48 - (Int.tmod a0 10))) % 256] : List Int)) := ⟨_, rfl⟩
    replace H : (if t171.size + (strOfNums y172).size ≤ 9223372036854775807 then (some (t171 ++ (strOfNums y172))) else (none)) = some r := by first | (rw [hy172]; with_reducible exact H) | (have H2_ := (Option.bind_some _ _).symm.trans H; rw [hy172]; with_reducible exact H2_) | (have H2_ := (Option.bind_some _ _).symm.trans H; with_reducible exact H2_) | with_reducible exact H | (rw [hy172]; exact H) | exact H
    have Ny172 := Aside0.mk hy172
    clear hy172
    by_cases c4 : t171.size + (strOfNums y172).size ≤ 9223372036854775807
    · rw [if_pos c4] at H
      have c4b0 := eq_true c4
      have c4b1 : decide (t171.size + (strOfNums y172).size ≤ 9223372036854775807) = true := decide_eq_true c4
      try have c4b2 : (9223372036854775807 < t171.size + (strOfNums y172).size) = False := eq_false (Nat.not_lt.2 c4)
      obtain rfl := Option.some.inj H
      go_enter Tryz.func13, Tryz.ntmps13
      try go_wp2
      have n0_ := Aside0.mk (below_drew1 HB.out)
      clear HB
      have HB := n0_
      clear n0_
      refine start_ (n := 11) (S := fun w' => True) (ds := []) #[false, false, false, false, false, false, false, false, false, false, false] (by kernel_rfl) rfl rfl trivial (fun hHeld => ?_); refine with_tabW cachepotref3_Digits.tab2 cachepotref3_Digits.bits2 (fun HT_ HW_ => ?_)
      generalize w.drew = w5 at HB hHeld ⊢
      refine pure_ (i := 0) (N := some 5) (v := ?_) (a' := ?_) #[true, false, false, false, false, false, false, false, false, false, false] rfl rfl (any_of HT_.out (by kernel_rfl)) (fun _ _ _ h => h) (Or.inl ⟨by rfl, ?_⟩) ?_ ?_
      rotate_left
      · intro w'
        go_simp
        with_reducible rfl
      rotate_left
      · simp only [Act.put, List.setIfInBounds_toArray, List.set_cons_zero, List.set_cons_succ, i64_w, i32_w]
        rfl
      refine pure_ (i := 1) (N := some 6) (v := ?_) (a' := ?_) #[true, true, false, false, false, false, false, false, false, false, false] rfl rfl (any_of HT_.out (by kernel_rfl)) (fun _ _ _ h => h) (Or.inl ⟨by rfl, ?_⟩) ?_ ?_
      rotate_left
      · intro w'
        go_simp
        with_reducible rfl
      rotate_left
      · simp only [Act.put, List.setIfInBounds_toArray, List.set_cons_zero, List.set_cons_succ, i64_w, i32_w]
        rfl
      refine pure_ (i := 3) (N := some 8) (v := ?_) (a' := ?_) #[true, true, false, true, false, false, false, false, false, false, false] rfl rfl (any_of HT_.out (by kernel_rfl)) (fun _ _ _ h => h) (Or.inl ⟨by rfl, ?_⟩) ?_ ?_
      rotate_left
      · intro w'
        go_simp
        with_reducible rfl
      rotate_left
      · simp only [Act.put, List.setIfInBounds_toArray, List.set_cons_zero, List.set_cons_succ, i64_w, i32_w]
        rfl
      refine pure_ (i := 4) (N := some 9) (v := ?_) (a' := ?_) #[true, true, false, true, true, false, false, false, false, false, false] rfl rfl (any_of HT_.out (by kernel_rfl)) (fun _ _ _ h => h) (Or.inl ⟨by rfl, ?_⟩) ?_ ?_
      rotate_left
      · intro w'
        go_simp
        with_reducible rfl
      rotate_left
      · simp only [Act.put, List.setIfInBounds_toArray, List.set_cons_zero, List.set_cons_succ, i64_w, i32_w]
        rfl
      refine pure_ (i := 5) (N := some 10) (v := ?_) (a' := ?_) #[true, true, false, true, true, true, false, false, false, false, false] rfl rfl (any_of HT_.out (by kernel_rfl)) (fun _ _ _ h => h) (Or.inl ⟨by rfl, ?_⟩) ?_ ?_
      rotate_left
      · intro w'
        go_simp
        with_reducible rfl
      rotate_left
      · simp only [Act.put, List.setIfInBounds_toArray, List.set_cons_zero, List.set_cons_succ, i64_w, i32_w]
        rfl
      refine pure_ (i := 6) (N := some 11) (v := ?_) (a' := ?_) #[true, true, false, true, true, true, true, false, false, false, false] rfl rfl (any_of HT_.out (by kernel_rfl)) (fun _ _ _ h => h) (Or.inl ⟨by rfl, ?_⟩) ?_ ?_
      rotate_left
      · intro w'
        go_simp
        with_reducible rfl
      rotate_left
      · simp only [Act.put, List.setIfInBounds_toArray, List.set_cons_zero, List.set_cons_succ, i64_w, i32_w]
        rfl
      refine join_ (σ := Value) 2 #[true, true, true, true, true, true, true, true, true, false, false] (fun s_ => [(7, .string t171), (12, s_), (13, .string (strOfNums y172))]) (fun s_ w' => (Kd.R (Kd.int .u8) 5 w' w.heap.size (fun _ => True) s_ y172) ∧ (Below w.heap.size w w')) ?_ ?_
      rotate_left
      · intro hCont
        refine two_ (i := 2) (j := 7) (Ni := some 7) (Nj := some 12) #[true, true, true, true, true, true, true, false, false, false, false] #[true, true, false, true, true, true, true, true, false, false, false] rfl rfl rfl rfl (two_of HT_.out (by kernel_rfl)) (by decide) (by decide) (fun K hK => ?_) (fun K hK => ?_)
        · skip
          refine goes_ Tryz.func13 (by kernel_rfl) rfl #[.int .i64 (wrap64 (Int.tdiv a0 10))] (by rfl) rfl rfl (by (try simp only [List.map_toArray, List.map_cons, List.map_nil]); first | done | rfl | (simp only [List.length_drop, List.length_take]; rfl)) ?_
          with_reducible refine (ih k (by omega) (wrap64 (Int.tdiv a0 10)) t171 _ A3.out).mono ?_
          rintro e w6 ⟨rfl, hb⟩
          refine ⟨_, rfl, ?_⟩
          have n0_ := Aside0.mk (below_step (by repeat (first | (with_reducible first | exact HB.out | apply below_alloc | apply pw_below_drewN | apply below_drew1) | exact HB.out)) hb)
          clear HB
          have HB := n0_
          clear n0_
          (try clear hb)
          (try clear hb2)
          (try clear hk)
          (try clear hi)
          refine hK.out _ _ trivial (fun hHeld => ?_)
          clear hK K
          refine norm_ (a' := ?_) ?_ ?_
          rotate_left
          · show Act.put _ (some 7) _ = _
            simp only [Act.put, List.setIfInBounds_toArray, List.set_cons_zero, List.set_cons_succ, i64_w, i32_w]
            rfl
          refine one_ (i := 7) (N := some 12) #[true, true, true, true, true, true, true, true, false, false, false] rfl rfl (one_of HT_.out (by kernel_rfl)) (by decide) (fun K hK => ?_)
          refine Kd.R_lit_step (Kd.int .u8) _ 5 ?hg (N := 12) ?hd (xs := ([(wrap64 (48 - (Int.tmod a0 10))) % 256] : List Int)) (inner := [.int .u8 ((wrap64 (48 - (Int.tmod a0 10))) % 256)]) (ok := fun _ => True) (okp := fun _ => True) ?hr ?hp (fun _ hk => hk) trivial (Below.refl _ _) (Nat.le_refl _) (by simp) ?_; (case hd => rfl); (case hg => rfl); (case hr => first | (go_simp; done) | (go_simp; rfl)); (case hp => exact (Reps.one (show Kd.M (Kd.int .u8) _ _ _ ((wrap64 (48 - (Int.tmod a0 10))) % 256) [.int .u8 ((wrap64 (48 - (Int.tmod a0 10))) % 256)] from rfl) (Reps.none _ _)))
          intro v173 w7 ho8 hb hg_ hnew_
          clear hg_ hnew_
          (first | rw [← Ny172.out] at ho8 | (simp only [Int.reduceToNat] at ho8; rw [← Ny172.out] at ho8))
          have n0_ := Aside0.mk (Kd.R_lower ho8 (below_size (by repeat (first | (with_reducible first | exact HB.out | apply below_alloc | apply pw_below_drewN | apply below_drew1) | exact HB.out))))
          have n1_ := Aside0.mk (below_step (by repeat (first | (with_reducible first | exact HB.out | apply below_alloc | apply pw_below_drewN | apply below_drew1) | exact HB.out)) hb)
          clear HB
          have HO174 := n0_
          have HB := n1_
          clear n0_ n1_
          clear hb ho8
          refine hK.out _ _ trivial (fun hHeld => ?_)
          clear hK K
          refine norm_ (a' := ?_) ?_ ?_
          rotate_left
          · show Act.put _ (some 12) _ = _
            simp only [Act.put, List.setIfInBounds_toArray, List.set_cons_zero, List.set_cons_succ, i64_w, i32_w]
            rfl
          refine one_ (i := 8) (N := some 13) #[true, true, true, true, true, true, true, true, true, false, false] rfl rfl (one_of HT_.out (by kernel_rfl)) (by decide) (fun K hK => ?_)
          have hcv9 := own_string (P := Tryz.prog) Tryz.underlying55 Tryz.underlying5 Tryz.underlying9 (Kd.own_of_R HO174.out)
          refine value_ (w1 := ?_) (v := ?_) (by rfl) rfl ?_ ?_
          rotate_left 2
          · go_simp
            constructor
            · rfl
            · rfl
          clear hcv9
          refine hK.out _ _ trivial (fun hHeld => ?_)
          clear hK K
          refine norm_ (a' := ?_) ?_ ?_
          rotate_left
          · show Act.put _ (some 13) _ = _
            simp only [Act.put, List.setIfInBounds_toArray, List.set_cons_zero, List.set_cons_succ, i64_w, i32_w]
            rfl
          exact norm_ (by simp only [putAll, Act.put, List.setIfInBounds_toArray, List.set_cons_zero, List.set_cons_succ]) (hCont (v173) _ ⟨(by (with_reducible repeat (first | apply Kd.R_alloc | apply Kd.R_drewN | apply Kd.R_drew)); exact HO174.out), (by repeat (first | (with_reducible first | exact HB.out | apply below_alloc | apply pw_below_drewN | apply below_drew1) | exact HB.out))⟩)
        · skip
          refine Kd.R_lit_step (Kd.int .u8) _ 5 ?hg (N := 12) ?hd (xs := ([(wrap64 (48 - (Int.tmod a0 10))) % 256] : List Int)) (inner := [.int .u8 ((wrap64 (48 - (Int.tmod a0 10))) % 256)]) (ok := fun _ => True) (okp := fun _ => True) ?hr ?hp (fun _ hk => hk) trivial (Below.refl _ _) (Nat.le_refl _) (by simp) ?_; (case hd => rfl); (case hg => rfl); (case hr => first | (go_simp; done) | (go_simp; rfl)); (case hp => exact (Reps.one (show Kd.M (Kd.int .u8) _ _ _ ((wrap64 (48 - (Int.tmod a0 10))) % 256) [.int .u8 ((wrap64 (48 - (Int.tmod a0 10))) % 256)] from rfl) (Reps.none _ _)))
          intro v173 w6 ho7 hb hg_ hnew_
          clear hg_ hnew_
          (first | rw [← Ny172.out] at ho7 | (simp only [Int.reduceToNat] at ho7; rw [← Ny172.out] at ho7))
          have n0_ := Aside0.mk (Kd.R_lower ho7 (below_size (by repeat (first | (with_reducible first | exact HB.out | apply below_alloc | apply pw_below_drewN | apply below_drew1) | exact HB.out))))
          have n1_ := Aside0.mk (below_step (by repeat (first | (with_reducible first | exact HB.out | apply below_alloc | apply pw_below_drewN | apply below_drew1) | exact HB.out)) hb)
          clear HB
          have HO174 := n0_
          have HB := n1_
          clear n0_ n1_
          clear hb ho7
          refine hK.out _ _ trivial (fun hHeld => ?_)
          clear hK K
          refine norm_ (a' := ?_) ?_ ?_
          rotate_left
          · show Act.put _ (some 12) _ = _
            simp only [Act.put, List.setIfInBounds_toArray, List.set_cons_zero, List.set_cons_succ, i64_w, i32_w]
            rfl
          refine two_ (i := 2) (j := 8) (Ni := some 7) (Nj := some 13) #[true, true, true, true, true, true, true, true, false, false, false] #[true, true, false, true, true, true, true, true, true, false, false] rfl rfl rfl rfl (two_of HT_.out (by kernel_rfl)) (by decide) (by decide) (fun K hK => ?_) (fun K hK => ?_)
          · skip
            refine goes_ Tryz.func13 (by kernel_rfl) rfl #[.int .i64 (wrap64 (Int.tdiv a0 10))] (by rfl) rfl rfl (by (try simp only [List.map_toArray, List.map_cons, List.map_nil]); first | done | rfl | (simp only [List.length_drop, List.length_take]; rfl)) ?_
            with_reducible refine (ih k (by omega) (wrap64 (Int.tdiv a0 10)) t171 _ A3.out).mono ?_
            rintro e w8 ⟨rfl, hb⟩
            refine ⟨_, rfl, ?_⟩
            have n0_ := Aside0.mk (Kd.R_below (by (with_reducible repeat (first | apply Kd.R_alloc | apply Kd.R_drewN | apply Kd.R_drew)); exact HO174.out) hb)
            have n1_ := Aside0.mk (below_step (by repeat (first | (with_reducible first | exact HB.out | apply below_alloc | apply pw_below_drewN | apply below_drew1) | exact HB.out)) hb)
            clear HO174
            clear HB
            have HO174 := n0_
            have HB := n1_
            clear n0_ n1_
            (try clear hb)
            (try clear hb2)
            (try clear hk)
            (try clear hi)
            refine hK.out _ _ trivial (fun hHeld => ?_)
            clear hK K
            refine norm_ (a' := ?_) ?_ ?_
            rotate_left
            · show Act.put _ (some 7) _ = _
              simp only [Act.put, List.setIfInBounds_toArray, List.set_cons_zero, List.set_cons_succ, i64_w, i32_w]
              rfl
            refine one_ (i := 8) (N := some 13) #[true, true, true, true, true, true, true, true, true, false, false] rfl rfl (one_of HT_.out (by kernel_rfl)) (by decide) (fun K hK => ?_)
            have hcv9 := own_string (P := Tryz.prog) Tryz.underlying55 Tryz.underlying5 Tryz.underlying9 (Kd.own_of_R HO174.out)
            refine value_ (w1 := ?_) (v := ?_) (by rfl) rfl ?_ ?_
            rotate_left 2
            · go_simp
              constructor
              · rfl
              · rfl
            clear hcv9
            refine hK.out _ _ trivial (fun hHeld => ?_)
            clear hK K
            refine norm_ (a' := ?_) ?_ ?_
            rotate_left
            · show Act.put _ (some 13) _ = _
              simp only [Act.put, List.setIfInBounds_toArray, List.set_cons_zero, List.set_cons_succ, i64_w, i32_w]
              rfl
            exact norm_ (by simp only [putAll, Act.put, List.setIfInBounds_toArray, List.set_cons_zero, List.set_cons_succ]) (hCont (v173) _ ⟨(by (with_reducible repeat (first | apply Kd.R_alloc | apply Kd.R_drewN | apply Kd.R_drew)); exact HO174.out), (by repeat (first | (with_reducible first | exact HB.out | apply below_alloc | apply pw_below_drewN | apply below_drew1) | exact HB.out))⟩)
          · skip
            have hcv8 := own_string (P := Tryz.prog) Tryz.underlying55 Tryz.underlying5 Tryz.underlying9 (Kd.own_of_R HO174.out)
            refine value_ (w1 := ?_) (v := ?_) (by rfl) rfl ?_ ?_
            rotate_left 2
            · go_simp
              constructor
              · rfl
              · rfl
            clear hcv8
            refine hK.out _ _ trivial (fun hHeld => ?_)
            clear hK K
            refine norm_ (a' := ?_) ?_ ?_
            rotate_left
            · show Act.put _ (some 13) _ = _
              simp only [Act.put, List.setIfInBounds_toArray, List.set_cons_zero, List.set_cons_succ, i64_w, i32_w]
              rfl
            refine one_ (i := 2) (N := some 7) #[true, true, true, true, true, true, true, true, true, false, false] rfl rfl (one_of HT_.out (by kernel_rfl)) (by decide) (fun K hK => ?_)
            refine goes_ Tryz.func13 (by kernel_rfl) rfl #[.int .i64 (wrap64 (Int.tdiv a0 10))] (by rfl) rfl rfl (by (try simp only [List.map_toArray, List.map_cons, List.map_nil]); first | done | rfl | (simp only [List.length_drop, List.length_take]; rfl)) ?_
            with_reducible refine (ih k (by omega) (wrap64 (Int.tdiv a0 10)) t171 _ A3.out).mono ?_
            rintro e w9 ⟨rfl, hb⟩
            refine ⟨_, rfl, ?_⟩
            have n0_ := Aside0.mk (Kd.R_below (by (with_reducible repeat (first | apply Kd.R_alloc | apply Kd.R_drewN | apply Kd.R_drew)); exact HO174.out) hb)
            have n1_ := Aside0.mk (below_step (by repeat (first | (with_reducible first | exact HB.out | apply below_alloc | apply pw_below_drewN | apply below_drew1) | exact HB.out)) hb)
            clear HO174
            clear HB
            have HO174 := n0_
            have HB := n1_
            clear n0_ n1_
            (try clear hb)
            (try clear hb2)
            (try clear hk)
            (try clear hi)
            refine hK.out _ _ trivial (fun hHeld => ?_)
            clear hK K
            refine norm_ (a' := ?_) ?_ ?_
            rotate_left
            · show Act.put _ (some 7) _ = _
              simp only [Act.put, List.setIfInBounds_toArray, List.set_cons_zero, List.set_cons_succ, i64_w, i32_w]
              rfl
            exact norm_ (by simp only [putAll, Act.put, List.setIfInBounds_toArray, List.set_cons_zero, List.set_cons_succ]) (hCont (v173) _ ⟨(by (with_reducible repeat (first | apply Kd.R_alloc | apply Kd.R_drewN | apply Kd.R_drew)); exact HO174.out), (by repeat (first | (with_reducible first | exact HB.out | apply below_alloc | apply pw_below_drewN | apply below_drew1) | exact HB.out))⟩)
      rintro v173 w10 ⟨h0_, h1_⟩
      have n0_ : Aside0 (Kd.R (Kd.int .u8) 5 w10 w.heap.size (fun _ => True) v173 y172) := ⟨h0_⟩
      have n1_ : Aside0 (Below w.heap.size w w10) := ⟨h1_⟩
      clear HB
      clear h0_ h1_
      have HO174 := n0_
      have HB := n1_
      clear n0_ n1_
      have hHeld := trivial
      refine norm_ (a' := ?_) ?_ ?_
      rotate_left
      · simp only [putAll, Act.put, List.setIfInBounds_toArray, List.set_cons_zero, List.set_cons_succ]
        rfl
      refine pure_ (i := 9) (N := some 14) (v := ?_) (a' := ?_) #[true, true, true, true, true, true, true, true, true, true, false] rfl rfl (any_of HT_.out (by kernel_rfl)) (fun _ _ _ h => h) (Or.inl ⟨by rfl, ?_⟩) ?_ ?_
      rotate_left
      · intro w'
        go_simp
        with_reducible rfl
      rotate_left
      · simp only [Act.put, List.setIfInBounds_toArray, List.set_cons_zero, List.set_cons_succ, i64_w, i32_w]
        rfl
      refine pure_ (i := 10) (N := some 2) (v := ?_) (a' := ?_) #[true, true, true, true, true, true, true, true, true, true, true] rfl rfl (any_of HT_.out (by kernel_rfl)) (fun _ _ _ h => h) (Or.inl ⟨by rfl, ?_⟩) ?_ ?_
      rotate_left
      · intro w'
        go_simp
        with_reducible rfl
      rotate_left
      · simp only [Act.put, List.setIfInBounds_toArray, List.set_cons_zero, List.set_cons_succ, i64_w, i32_w]
        rfl
      refine done_ (done_of HT_.out (by kernel_rfl)) ?_
      try go_wp2
      go_ret
      exact ⟨by first | rfl | (simp [errW_none, errW_some] <;> rfl) | (simp [*, errW_none, errW_some] <;> rfl), by repeat (first | (with_reducible first | exact HB.out | apply below_alloc | apply pw_below_drewN | apply below_drew1) | exact HB.out)⟩
    · rw [if_neg c4] at H
      exact absurd H (by simp)
  · rw [if_neg c2] at H
    have c2b0 : decide (a0 ≤ (-10)) = false := decide_eq_false c2
    clear c2
    by_cases c11 : a0 < 0
    · rw [if_pos c11] at H
      have c11b0 : decide (a0 < 0) = true := decide_eq_true c11
      clear c11
      obtain ⟨y175, hy175⟩ : ∃ y_ : List Int, y_ = (([(wrap64 (48 - a0)) % 256] : List Int)) := ⟨_, rfl⟩
      replace H : (if 1 + (strOfNums y175).size ≤ 9223372036854775807 then (some ((⟨#[45]⟩ : ByteArray) ++ (strOfNums y175))) else (none)) = some r := by first | (rw [hy175]; with_reducible exact H) | (have H2_ := (Option.bind_some _ _).symm.trans H; rw [hy175]; with_reducible exact H2_) | (have H2_ := (Option.bind_some _ _).symm.trans H; with_reducible exact H2_) | with_reducible exact H | (rw [hy175]; exact H) | exact H
      have Ny175 := Aside0.mk hy175
      clear hy175
      by_cases c12 : 1 + (strOfNums y175).size ≤ 9223372036854775807
      · rw [if_pos c12] at H
        have c12b0 := eq_true c12
        have c12b1 : decide (1 + (strOfNums y175).size ≤ 9223372036854775807) = true := decide_eq_true c12
        try have c12b2 : (9223372036854775807 < 1 + (strOfNums y175).size) = False := eq_false (Nat.not_lt.2 c12)
        obtain rfl := Option.some.inj H
        go_enter Tryz.func13, Tryz.ntmps13
        go_wp2_with (first | ((with_reducible refine gate_dst (N := 20) rfl ?_); refine Kd.R_lit (Kd.int .u8) _ 5 ?hg (N := 20) ?hd (xs := ([(wrap64 (48 - a0)) % 256] : List Int)) (inner := [.int .u8 ((wrap64 (48 - a0)) % 256)]) (ok := fun _ => True) (okp := fun _ => True) ?hr ?hp (fun _ hk => hk) trivial (Below.refl _ _) (Nat.le_refl _) (by simp) ?_; (case hd => rfl); (case hg => rfl); (case hr => first | (go_simp; done) | (go_simp; rfl)); (case hp => exact (Reps.one (show Kd.M (Kd.int .u8) _ _ _ ((wrap64 (48 - a0)) % 256) [.int .u8 ((wrap64 (48 - a0)) % 256)] from rfl) (Reps.none _ _))); intro v176 w13 ho14 hb hg_ hnew_; clear hg_ hnew_; (first | rw [← Ny175.out] at ho14 | (simp only [Int.reduceToNat] at ho14; rw [← Ny175.out] at ho14)); have n0_ := Aside0.mk (Kd.R_lower ho14 (below_size (by repeat (first | (with_reducible first | exact HB.out | apply below_alloc | apply pw_below_drewN | apply below_drew1) | exact HB.out)))); have n1_ := Aside0.mk (below_step (by repeat (first | (with_reducible first | exact HB.out | apply below_alloc | apply pw_below_drewN | apply below_drew1) | exact HB.out)) hb); clear HB; have HO177 := n0_; have HB := n1_; clear n0_ n1_; clear hb ho14; have hcv15 := own_string (P := Tryz.prog) Tryz.underlying55 Tryz.underlying5 Tryz.underlying9 (Kd.own_of_R HO177.out)))
        go_ret
        exact ⟨by first | rfl | (simp [errW_none, errW_some] <;> rfl) | (simp [*, errW_none, errW_some] <;> rfl), by repeat (first | (with_reducible first | exact HB.out | apply below_alloc | apply pw_below_drewN | apply below_drew1) | exact HB.out)⟩
      · rw [if_neg c12] at H
        exact absurd H (by simp)
    · rw [if_neg c11] at H
      have c11b0 : decide (a0 < 0) = false := decide_eq_false c11
      clear c11
      by_cases c16 : a0 < 10
      · rw [if_pos c16] at H
        have c16b0 : decide (a0 < 10) = true := decide_eq_true c16
        clear c16
        obtain ⟨y178, hy178⟩ : ∃ y_ : List Int, y_ = (([(wrap64 (48 + a0)) % 256] : List Int)) := ⟨_, rfl⟩
        replace H : (some (strOfNums y178)) = some r := by first | (rw [hy178]; with_reducible exact H) | (have H2_ := (Option.bind_some _ _).symm.trans H; rw [hy178]; with_reducible exact H2_) | (have H2_ := (Option.bind_some _ _).symm.trans H; with_reducible exact H2_) | with_reducible exact H | (rw [hy178]; exact H) | exact H
        have Ny178 := Aside0.mk hy178
        clear hy178
        obtain rfl := Option.some.inj H
        go_enter Tryz.func13, Tryz.ntmps13
        go_wp2_with (first | ((with_reducible refine gate_dst (N := 28) rfl ?_); refine Kd.R_lit (Kd.int .u8) _ 5 ?hg (N := 28) ?hd (xs := ([(wrap64 (48 + a0)) % 256] : List Int)) (inner := [.int .u8 ((wrap64 (48 + a0)) % 256)]) (ok := fun _ => True) (okp := fun _ => True) ?hr ?hp (fun _ hk => hk) trivial (Below.refl _ _) (Nat.le_refl _) (by simp) ?_; (case hd => rfl); (case hg => rfl); (case hr => first | (go_simp; done) | (go_simp; rfl)); (case hp => exact (Reps.one (show Kd.M (Kd.int .u8) _ _ _ ((wrap64 (48 + a0)) % 256) [.int .u8 ((wrap64 (48 + a0)) % 256)] from rfl) (Reps.none _ _))); intro v179 w17 ho18 hb hg_ hnew_; clear hg_ hnew_; (first | rw [← Ny178.out] at ho18 | (simp only [Int.reduceToNat] at ho18; rw [← Ny178.out] at ho18)); have n0_ := Aside0.mk (Kd.R_lower ho18 (below_size (by repeat (first | (with_reducible first | exact HB.out | apply below_alloc | apply pw_below_drewN | apply below_drew1) | exact HB.out)))); have n1_ := Aside0.mk (below_step (by repeat (first | (with_reducible first | exact HB.out | apply below_alloc | apply pw_below_drewN | apply below_drew1) | exact HB.out)) hb); clear HB; have HO180 := n0_; have HB := n1_; clear n0_ n1_; clear hb ho18; have hcv19 := own_string (P := Tryz.prog) Tryz.underlying55 Tryz.underlying5 Tryz.underlying9 (Kd.own_of_R HO180.out)))
        go_ret
        exact ⟨by first | rfl | (simp [errW_none, errW_some] <;> rfl) | (simp [*, errW_none, errW_some] <;> rfl), by repeat (first | (with_reducible first | exact HB.out | apply below_alloc | apply pw_below_drewN | apply below_drew1) | exact HB.out)⟩
      · rw [if_neg c16] at H
        have c16b0 : decide (a0 < 10) = false := decide_eq_false c16
        clear c16
        replace H := Option.bind_eq_some_iff.mp H
        obtain ⟨t181, A200, H⟩ := H
        replace H : ((cachepotref3_Digits.f k (Int.tmod a0 10)).bind fun t182 => (if t181.size + t182.size ≤ 9223372036854775807 then (some (t181 ++ t182)) else (none))) = some r := H
        have A20 := Aside0.mk A200
        clear A200
        replace H := Option.bind_eq_some_iff.mp H
        obtain ⟨t182, A210, H⟩ := H
        replace H : (if t181.size + t182.size ≤ 9223372036854775807 then (some (t181 ++ t182)) else (none)) = some r := H
        have A21 := Aside0.mk A210
        clear A210
        by_cases c22 : t181.size + t182.size ≤ 9223372036854775807
        · rw [if_pos c22] at H
          have c22b0 := eq_true c22
          have c22b1 : decide (t181.size + t182.size ≤ 9223372036854775807) = true := decide_eq_true c22
          try have c22b2 : (9223372036854775807 < t181.size + t182.size) = False := eq_false (Nat.not_lt.2 c22)
          obtain rfl := Option.some.inj H
          go_enter Tryz.func13, Tryz.ntmps13
          go_wp2_with (first | ((with_reducible refine gate_callee (f := 13) rfl ?_); refine goesL_ (some 32) rfl rfl Tryz.func13 (by kernel_rfl) rfl #[.int .i64 (wrap64 (Int.tdiv a0 10))] rfl (by (try simp only [List.map_toArray, List.map_cons, List.map_nil]); first | done | rfl | (simp only [List.length_drop, List.length_take]; rfl)) ?_; (with_reducible refine (ih k (by omega) (wrap64 (Int.tdiv a0 10)) t181 _ A20.out).mono ?_); rintro e w23 ⟨rfl, hb⟩; refine ⟨_, rfl, ?_⟩; have n0_ := Aside0.mk (below_step (by repeat (first | (with_reducible first | exact HB.out | apply below_alloc | apply pw_below_drewN | apply below_drew1) | exact HB.out)) hb); clear HB; have HB := n0_; clear n0_; (try clear hb); (try clear hb2); (try clear hk); (try clear hi)) | ((with_reducible refine gate_callee (f := 13) rfl ?_); refine goesL_ (some 35) rfl rfl Tryz.func13 (by kernel_rfl) rfl #[.int .i64 (Int.tmod a0 10)] rfl (by (try simp only [List.map_toArray, List.map_cons, List.map_nil]); first | done | rfl | (simp only [List.length_drop, List.length_take]; rfl)) ?_; (with_reducible refine (ih k (by omega) (Int.tmod a0 10) t182 _ A21.out).mono ?_); rintro e w24 ⟨rfl, hb⟩; refine ⟨_, rfl, ?_⟩; have n0_ := Aside0.mk (below_step (by repeat (first | (with_reducible first | exact HB.out | apply below_alloc | apply pw_below_drewN | apply below_drew1) | exact HB.out)) hb); clear HB; have HB := n0_; clear n0_; (try clear hb); (try clear hb2); (try clear hk); (try clear hi)))
          go_ret
          exact ⟨by first | rfl | (simp [errW_none, errW_some] <;> rfl) | (simp [*, errW_none, errW_some] <;> rfl), by repeat (first | (with_reducible first | exact HB.out | apply below_alloc | apply pw_below_drewN | apply below_drew1) | exact HB.out)⟩
        · rw [if_neg c22] at H
          exact absurd H (by simp)
end Go.Proofs.YtkehbnkfgbcpnaaGreatDoor.Wd
end
