/-
  Texts of mine, and texts that print.sh and pp.py wrote, merged and cut to what is used: Wd6
-/
import Derived.Test.YtkehbnkfgbcpnaaGreatDoorProg
import Derived.Below
import Derived.Shelf.Unicode.DecodeSlow
import Derived.Lib.ItoaMem
import Derived.Lib.LaidTab
import Derived.Deep.Draws
import Derived.Deep.AppendLies
import Derived.Maps.AppendAt
import Derived.OwnWalk
import Derived.Laws.BytesArg
import Derived.Laws.MakeOwn
import Derived.Laws.OwnMore
import Derived.Deep.OwnRows
import Derived.Tactics
import Derived.Lib.ConvBytes
import Derived.Laws.Slices
import Derived.WalkKit
import Derived.KernelRfl
import Derived.RowKit3
import Derived.Deep.LoopGhost
import Derived.Deep.QuietTactic
import Derived.BigQuiet
import Derived.WideLaws
import Derived.Deep.DeepCutAuto
import Derived.Deep.CutBlock
import Derived.Deep.RegionHeld3
import Derived.Laws.Rows
import Derived.Lib.AppendStr
import Derived.ArgAppend
import Derived.Laws.IdiomCopy
import Derived.RowKit
import Derived.Test.YtkehbnkfgbcpnaaGreatDoorRows
import Derived.ChangeArms
import Derived.DataReads
import Derived.DataElems
import Derived.OrdersHeld
import Derived.Laws.BitsLemmas
import Derived.Laws.StructEq
import Derived.Test.YtkehbnkfgbcpnaaGreatDoorCards
import Derived.Test.YtkehbnkfgbcpnaaGreatDoorTie
import Derived.Lib.LaidU8T
import Derived.Lib.LaidU8
import Derived.PinnedBridge
import Derived.LaidMore
import Derived.Lay
import Derived.ProofKit
import Derived.OpenShut
import Derived.SevenTiedAt
import Derived.Stop.Joined
import Derived.Deep.DeepHandedRow
import Derived.SliceStrings
import Derived.Carry
import Derived.Shelf.Strings.Builder1
import Derived.Shelf.Strings.Builder2
import Derived.Shelf.Strings.OnBuilder
import Derived.Shelf.Strings.BuilderF
import Derived.Shelf.Strconv.Itoa0
import Derived.Shelf.Strconv.Itoa1
import Derived.Shelf.LaysM
import Derived.Shelf.Strconv.Itoa2
import Derived.Shelf.Strconv.Itoa3
import Derived.Shelf.Strings.Prefix
import Derived.Shelf.Unicode.Decode
import Derived.Shelf.Strings.Repeat
import Derived.Shelf.Unicode.DecodeAny
import Derived.Lib.Strings
import Derived.Lib.Slices
import Derived.Lib.Walk
import Derived.Lib.Builder
import Derived.Lib.UnsafeStr
import Derived.Laws.Externs
import Derived.Lib.DecodeNEq
import Derived.Lib.OthersKept
import Derived.Lib.Hide
import Derived.BigCall
import Derived.Outline
import Derived.StillTailTactics
import Derived.Lib.AppendIntMem
import Derived.FnData
import Derived.Tactics2
import Derived.BigGuard
import Derived.IntWalk
import Derived.WalkSpells
import Derived.Laws.Pointers
import Derived.Lib.Bytealg
import Derived.Lib.Repeat
import Derived.Laws.BytesString
import Derived.Laws.Cells
import Derived.Laws.Sem
import Derived.Laws.Strings
import Derived.Laws.World
import Derived.Orders
import Derived.Lib.Join
import Derived.Test.YtkehbnkfgbcpnaaGreatDoorMw0
import Derived.Test.YtkehbnkfgbcpnaaGreatDoorMw1
import Derived.Test.YtkehbnkfgbcpnaaGreatDoorMw2

section
namespace Go.Proofs.YtkehbnkfgbcpnaaGreatDoor.Wd
open Go.RowKit Go.Proofs.YtkehbnkfgbcpnaaGreatDoorW.PrintWords Go.Proofs.YtkehbnkfgbcpnaaGreatDoorW.PrintLast Go.Proofs.YtkehbnkfgbcpnaaGreatDoorW.PrintMore
attribute [local go_sem] max2_int min2_int max_two min_two max_three min_three max_four min_four   -- for this text's walks alone
set_option linter.unusedVariables false
set_option linter.unusedSimpArgs false
mutual
def cachepotref3_Tell.j0 : Nat → ByteArray → Int → Int → Int → Int → List (S39) → List ByteArray → List ByteArray → Option (ByteArray)
  | 0, _, _, _, _, _, _, _, _ => none
  | k + 1, x3, x184000, x184001, x184002, x184003, x184004, x184005, x184006 => if x184001 = 0 then (cachepotref3_Tell.j1 k x3 x184000 x184001 x184002 x184003 x184004 x184005 x184006) else ((cachepotref3_Digits.f k x184001).bind fun t185 => (if 9 + t185.size ≤ 9223372036854775807 then (if x3.size + ((⟨#[32, 115, 101, 115, 115, 105, 111, 110, 32]⟩ : ByteArray) ++ t185).size ≤ 9223372036854775807 then (cachepotref3_Tell.j1 k (x3 ++ ((⟨#[32, 115, 101, 115, 115, 105, 111, 110, 32]⟩ : ByteArray) ++ t185)) x184000 x184001 x184002 x184003 x184004 x184005 x184006) else (none)) else (none)))
def cachepotref3_Tell.j1 : Nat → ByteArray → Int → Int → Int → Int → List (S39) → List ByteArray → List ByteArray → Option (ByteArray)
  | 0, _, _, _, _, _, _, _, _ => none
  | k + 1, x3, x184000, x184001, x184002, x184003, x184004, x184005, x184006 => if x184002 = 0 then (cachepotref3_Tell.j2 k x3 x184000 x184001 x184002 x184003 x184004 x184005 x184006) else ((cachepotref3_Digits.f k (wrap64 (x184002))).bind fun t186 => (if 5 + t186.size ≤ 9223372036854775807 then (if x3.size + ((⟨#[32, 115, 101, 113, 32]⟩ : ByteArray) ++ t186).size ≤ 9223372036854775807 then (cachepotref3_Tell.j2 k (x3 ++ ((⟨#[32, 115, 101, 113, 32]⟩ : ByteArray) ++ t186)) x184000 x184001 x184002 x184003 x184004 x184005 x184006) else (none)) else (none)))
def cachepotref3_Tell.j2 : Nat → ByteArray → Int → Int → Int → Int → List (S39) → List ByteArray → List ByteArray → Option (ByteArray)
  | 0, _, _, _, _, _, _, _, _ => none
  | k + 1, x3, x184000, x184001, x184002, x184003, x184004, x184005, x184006 => if x184003 = 0 then (cachepotref3_Tell.j3 k x3 x184000 x184001 x184002 x184003 x184004 x184005 x184006) else ((cachepotref3_Digits.f k x184003).bind fun t187 => (if 3 + t187.size ≤ 9223372036854775807 then (if x3.size + ((⟨#[32, 110, 32]⟩ : ByteArray) ++ t187).size ≤ 9223372036854775807 then (cachepotref3_Tell.j3 k (x3 ++ ((⟨#[32, 110, 32]⟩ : ByteArray) ++ t187)) x184000 x184001 x184002 x184003 x184004 x184005 x184006) else (none)) else (none)))
def cachepotref3_Tell.j3 : Nat → ByteArray → Int → Int → Int → Int → List (S39) → List ByteArray → List ByteArray → Option (ByteArray)
  | 0, _, _, _, _, _, _, _, _ => none
  | k + 1, x3, x184000, x184001, x184002, x184003, x184004, x184005, x184006 => cachepotref3_Tell.l0 k x3 0 x184000 x184001 x184002 x184003 x184004 x184005 x184006
def cachepotref3_Tell.l0 : Nat → ByteArray → Int → Int → Int → Int → Int → List (S39) → List ByteArray → List ByteArray → Option (ByteArray)
  | 0, _, _, _, _, _, _, _, _, _ => none
  | k + 1, x3, x4, x184000, x184001, x184002, x184003, x184004, x184005, x184006 => if x4 < (x184004.length : Int) then (if 0 ≤ x4 then (if (rd_T39 x184004 x4).f1 = true then ((cachepotref3_Quote.f ((rd_T39 x184004 x4).f0)).bind fun t190 => (if 1 + t190.size ≤ 9223372036854775807 then (if ((⟨#[32]⟩ : ByteArray) ++ t190).size + 1 ≤ 9223372036854775807 then ((cachepotref3_Quote.f ((rd_T39 x184004 x4).f2)).bind fun t191 => (if (((⟨#[32]⟩ : ByteArray) ++ t190) ++ (⟨#[61]⟩ : ByteArray)).size + t191.size ≤ 9223372036854775807 then (if ((((⟨#[32]⟩ : ByteArray) ++ t190) ++ (⟨#[61]⟩ : ByteArray)) ++ t191).size + 1 ≤ 9223372036854775807 then ((cachepotref3_Digits.f k (wrap64 ((rd_T39 x184004 x4).f3))).bind fun t192 => (if (((((⟨#[32]⟩ : ByteArray) ++ t190) ++ (⟨#[61]⟩ : ByteArray)) ++ t191) ++ (⟨#[64]⟩ : ByteArray)).size + t192.size ≤ 9223372036854775807 then (if x3.size + ((((((⟨#[32]⟩ : ByteArray) ++ t190) ++ (⟨#[61]⟩ : ByteArray)) ++ t191) ++ (⟨#[64]⟩ : ByteArray)) ++ t192).size ≤ 9223372036854775807 then (cachepotref3_Tell.l0 k (x3 ++ ((((((⟨#[32]⟩ : ByteArray) ++ t190) ++ (⟨#[61]⟩ : ByteArray)) ++ t191) ++ (⟨#[64]⟩ : ByteArray)) ++ t192)) (wrap64 (x4 + 1)) x184000 x184001 x184002 x184003 x184004 x184005 x184006) else (none)) else (none))) else (none)) else (none))) else (none)) else (none))) else ((cachepotref3_Quote.f ((rd_T39 x184004 x4).f0)).bind fun t193 => (if 1 + t193.size ≤ 9223372036854775807 then (if ((⟨#[32]⟩ : ByteArray) ++ t193).size + 1 ≤ 9223372036854775807 then (if x3.size + (((⟨#[32]⟩ : ByteArray) ++ t193) ++ (⟨#[63]⟩ : ByteArray)).size ≤ 9223372036854775807 then (cachepotref3_Tell.l0 k (x3 ++ (((⟨#[32]⟩ : ByteArray) ++ t193) ++ (⟨#[63]⟩ : ByteArray))) (wrap64 (x4 + 1)) x184000 x184001 x184002 x184003 x184004 x184005 x184006) else (none)) else (none)) else (none)))) else (none)) else (cachepotref3_Tell.l1 k x3 0 x184000 x184001 x184002 x184003 x184004 x184005 x184006)
def cachepotref3_Tell.l1 : Nat → ByteArray → Int → Int → Int → Int → Int → List (S39) → List ByteArray → List ByteArray → Option (ByteArray)
  | 0, _, _, _, _, _, _, _, _, _ => none
  | k + 1, x3, x6, x184000, x184001, x184002, x184003, x184004, x184005, x184006 => if x6 < (x184005.length : Int) then (if 0 ≤ x6 then ((cachepotref3_Quote.f (rdOf ByteArray.empty x184005 x6)).bind fun t195 => (if 1 + t195.size ≤ 9223372036854775807 then (if x3.size + ((⟨#[32]⟩ : ByteArray) ++ t195).size ≤ 9223372036854775807 then (cachepotref3_Tell.l1 k (x3 ++ ((⟨#[32]⟩ : ByteArray) ++ t195)) (wrap64 (x6 + 1)) x184000 x184001 x184002 x184003 x184004 x184005 x184006) else (none)) else (none))) else (none)) else (if (x184006.length : Int) > 0 then (if x3.size + 7 ≤ 9223372036854775807 then (cachepotref3_Tell.j6 k (x3 ++ (⟨#[32, 102, 111, 114, 103, 111, 116]⟩ : ByteArray)) x184000 x184001 x184002 x184003 x184004 x184005 x184006) else (none)) else (cachepotref3_Tell.j6 k x3 x184000 x184001 x184002 x184003 x184004 x184005 x184006))
def cachepotref3_Tell.j6 : Nat → ByteArray → Int → Int → Int → Int → List (S39) → List ByteArray → List ByteArray → Option (ByteArray)
  | 0, _, _, _, _, _, _, _, _ => none
  | k + 1, x3, x184000, x184001, x184002, x184003, x184004, x184005, x184006 => cachepotref3_Tell.l2 k x3 0 x184000 x184001 x184002 x184003 x184004 x184005 x184006
def cachepotref3_Tell.l2 : Nat → ByteArray → Int → Int → Int → Int → Int → List (S39) → List ByteArray → List ByteArray → Option (ByteArray)
  | 0, _, _, _, _, _, _, _, _, _ => none
  | k + 1, x3, x7, x184000, x184001, x184002, x184003, x184004, x184005, x184006 => if x7 < (x184006.length : Int) then (if 0 ≤ x7 then ((cachepotref3_Quote.f (rdOf ByteArray.empty x184006 x7)).bind fun t197 => (if 1 + t197.size ≤ 9223372036854775807 then (if x3.size + ((⟨#[32]⟩ : ByteArray) ++ t197).size ≤ 9223372036854775807 then (cachepotref3_Tell.l2 k (x3 ++ ((⟨#[32]⟩ : ByteArray) ++ t197)) (wrap64 (x7 + 1)) x184000 x184001 x184002 x184003 x184004 x184005 x184006) else (none)) else (none))) else (none)) else (some x3)
end
def cachepotref3_Tell.f (k : Nat) (a0_0 : Int) (a0_1 : Int) (a0_2 : Int) (a0_3 : Int) (l0_4 : List (S39)) (l0_5 : List ByteArray) (l0_6 : List ByteArray) : Option (ByteArray) := if a0_0 = 0 then (cachepotref3_Tell.j0 k (⟨#[111, 107]⟩ : ByteArray) a0_0 a0_1 a0_2 a0_3 l0_4 l0_5 l0_6) else ((cachepotref3_Digits.f k a0_0).bind fun t184 => (if 6 + t184.size ≤ 9223372036854775807 then (cachepotref3_Tell.j0 k ((⟨#[101, 114, 114, 111, 114, 32]⟩ : ByteArray) ++ t184) a0_0 a0_1 a0_2 a0_3 l0_4 l0_5 l0_6) else (none)))
def cachepotref3_Tell.T15 : Bool × List (List Nat × List Nat) := (true, [([], []), ([], []), ([1], [1]), ([2], [2]), ([3], [3]), ([4], [4]), ([], []), ([6], [6]), ([7, 3], [7]), ([5, 8], [5, 8]), ([9], [9]), ([], []), ([11], [11]), ([12], [12]), ([13, 8], [13]), ([10, 14], [10, 14]), ([0, 15], [0, 15]), ([16, 14, 0, 1, 2, 3, 4, 5, 6, 7, 8, 9, 10, 11, 12, 13, 14, 15, 16], [0, 16])])
def cachepotref3_Tell.B15 : List Nat := [0, 0, 2, 6, 14, 30, 0, 64, 206, 510, 1022, 0, 2048, 6144, 14798, 32766, 65535, 131071]
theorem cachepotref3_Tell.tab15 : rtab .any (opsOf Tryz.f7 15) = cachepotref3_Tell.T15 := by kernel_rfl
theorem cachepotref3_Tell.bits15 : waitsOk cachepotref3_Tell.T15.2 cachepotref3_Tell.B15 = true := by kernel_rfl
set_option maxHeartbeats 8000000 in
set_option maxRecDepth 100000 in
theorem cachepotref3_Tell.calls (k : Nat) (a0_0 : Int) (a0_1 : Int) (a0_2 : Int) (a0_3 : Int) (A0_4 : Option Addr) (c0_4 : Nat) (l0_4 : List (S39)) (A0_5 : Option Addr) (c0_5 : Nat) (l0_5 : List ByteArray) (A0_6 : Option Addr) (c0_6 : Nat) (l0_6 : List ByteArray) (r : ByteArray) (w : World) (hr0_4 : Kd.C k39 w A0_4 l0_4.length l0_4) (hc0_4 : l0_4.length ≤ c0_4) (hr0_5 : Kd.C Kd.string w A0_5 l0_5.length l0_5) (hc0_5 : l0_5.length ≤ c0_5) (hr0_6 : Kd.C Kd.string w A0_6 l0_6.length l0_6) (hc0_6 : l0_6.length ≤ c0_6) (h : cachepotref3_Tell.f k a0_0 a0_1 a0_2 a0_3 l0_4 l0_5 l0_6 = some r) :
    Calls Tryz.prog 7 #[.agg #[.int .i64 a0_0, .int .i64 a0_1, .int .u32 a0_2, .int .i64 a0_3, .slice A0_4 l0_4.length c0_4, .slice A0_5 l0_5.length c0_5, .slice A0_6 l0_6.length c0_6]] w fun e w' => e = .returned (.string r) ∧ Below w.heap.size w w' := by
  have hu27 := Tryz.underlying27
  have hu39 := Tryz.underlying39
  have HR0_4 := Aside0.mk hr0_4
  have HC0_4 := Aside0.mk hc0_4
  clear hr0_4 hc0_4
  have HR0_5 := Aside0.mk hr0_5
  have HC0_5 := Aside0.mk hc0_5
  clear hr0_5 hc0_5
  have HR0_6 := Aside0.mk hr0_6
  have HC0_6 := Aside0.mk hc0_6
  clear hr0_6 hc0_6
  have HB := Aside0.mk (Below.refl w.heap.size w)
  have H : (if a0_0 = 0 then (cachepotref3_Tell.j0 k (⟨#[111, 107]⟩ : ByteArray) a0_0 a0_1 a0_2 a0_3 l0_4 l0_5 l0_6) else ((cachepotref3_Digits.f k a0_0).bind fun t184 => (if 6 + t184.size ≤ 9223372036854775807 then (cachepotref3_Tell.j0 k ((⟨#[101, 114, 114, 111, 114, 32]⟩ : ByteArray) ++ t184) a0_0 a0_1 a0_2 a0_3 l0_4 l0_5 l0_6) else (none)))) = some r := h
  clear h
  have HC2 := Aside0.mk H
  clear H
  go_enter Tryz.func7, Tryz.ntmps7
  go_upto_if 10 with (first | ((with_reducible refine gate_dst (N := 1) rfl ?_); refine box_event ?hg (N := 1) ?hd (cs := #[.int .i64 a0_0, .int .i64 a0_1, .int .u32 a0_2, .int .i64 a0_3, .slice A0_4 l0_4.length c0_4, .slice A0_5 l0_5.length c0_5, .slice A0_6 l0_6.length c0_6]) (t := 27) ?hr ?_; (case hd => rfl); (case hg => rfl); (case hr => first | (go_simp; done) | (go_simp; rfl)); intro gb183 hg w3 hbox hb; have n0_ := Aside0.mk (below_step (by repeat (first | (with_reducible first | exact HB.out | apply below_alloc | apply pw_below_drewN | apply below_drew1) | exact HB.out)) hb); have n1_ := Aside0.mk (hbox); have n2_ := Aside0.mk ((by rw [hg]; exact (below_size (by repeat (first | (with_reducible first | exact HB.out | apply below_alloc | apply pw_below_drewN | apply below_drew1) | exact HB.out))) : w.heap.size ≤ gb183)); have n3_ := Aside0.mk ((by rw [hg]; exact (below_size (by repeat (first | (with_reducible first | exact HB.out | apply below_alloc | apply pw_below_drewN | apply below_drew1) | exact HB.out))) : w.heap.size ≤ gb183)); clear HB; have HB := n0_; have BK183 := n1_; have GW183 := n2_; have GE183 := n3_; clear n0_ n1_ n2_ n3_; clear hb hbox hg; have hcz4_0 : w3.cell? ⟨gb183, 0, none⟩ = some (.int .i64 a0_0) := (blk_cell BK183.out 0).trans rfl; have hcz4_1 : w3.cell? ⟨gb183, 1, none⟩ = some (.int .i64 a0_1) := (blk_cell BK183.out 1).trans rfl; have hcz4_2 : w3.cell? ⟨gb183, 2, none⟩ = some (.int .u32 a0_2) := (blk_cell BK183.out 2).trans rfl; have hcz4_3 : w3.cell? ⟨gb183, 3, none⟩ = some (.int .i64 a0_3) := (blk_cell BK183.out 3).trans rfl; have hcz4_4 : w3.cell? ⟨gb183, 4, none⟩ = some (.slice A0_4 l0_4.length c0_4) := (blk_cell BK183.out 4).trans rfl; have hcz4_5 : w3.cell? ⟨gb183, 5, none⟩ = some (.slice A0_5 l0_5.length c0_5) := (blk_cell BK183.out 5).trans rfl; have hcz4_6 : w3.cell? ⟨gb183, 6, none⟩ = some (.slice A0_6 l0_6.length c0_6) := (blk_cell BK183.out 6).trans rfl; have hfz4_0 := blk_frozen BK183.out 0; have hfz4_1 := blk_frozen BK183.out 1; have hfz4_2 := blk_frozen BK183.out 2; have hfz4_3 := blk_frozen BK183.out 3; have hfz4_4 := blk_frozen BK183.out 4; have hfz4_5 := blk_frozen BK183.out 5; have hfz4_6 := blk_frozen BK183.out 6))
  (try simp only [Act.put, List.setIfInBounds_toArray, List.set_cons_zero, List.set_cons_succ])
  go_cut [3] (fun v3 wc => ∃ (kq : Nat) (x3_1 : ByteArray), v3 = .string x3_1 ∧ Aside0 (cachepotref3_Tell.j0 kq x3_1 a0_0 a0_1 a0_2 a0_3 l0_4 l0_5 l0_6 = some r) ∧ Aside0 (kq ≤ k) ∧ Aside0 (wc.heap[gb183]? = some (.cells #[.int .i64 a0_0, .int .i64 a0_1, .int .u32 a0_2, .int .i64 a0_3, (.slice A0_4 l0_4.length c0_4), (.slice A0_5 l0_5.length c0_5), (.slice A0_6 l0_6.length c0_6)] 27 (0, 0))) ∧ Aside0 (Below w.heap.size w wc))
  case first =>
    have H := HC2.out
    clear HC2
    by_cases c5 : a0_0 = 0
    · rw [if_pos c5] at H
      have c5b0 : (a0_0 == 0) = true := beq_iff_eq.mpr c5
      have c5b1 : (a0_0 != 0) = false := bne_eq_false_iff_eq.mpr c5
      clear c5
      (first | rw [c5b0] | (simp only [i64_w, i32_w]; rw [c5b0]) | skip)
      have H' := Aside0.mk H
      clear H
      go_wp2
      go_meet
      case rel => exact ⟨_, ((⟨#[111, 107]⟩ : ByteArray)), (by first | rfl | (simp; done) | (simp [*]; done)), H', ⟨by first | omega | exact Nat.le_refl _⟩, ⟨by (with_reducible repeat (first | refine blk_drewN ?_ _ | refine blk_drew ?_ | refine blk_alloc ?_ _)); exact BK183.out⟩, ⟨by repeat (first | (with_reducible first | exact HB.out | apply below_alloc | apply pw_below_drewN | apply below_drew1 | refine below_set ?_ GE183.out) | exact HB.out)⟩⟩
    · rw [if_neg c5] at H
      have c5b0 : (a0_0 == 0) = false := beq_eq_false_iff_ne.mpr c5
      have c5b1 : (a0_0 != 0) = true := bne_iff_ne.mpr c5
      (first | rw [c5b0] | (simp only [i64_w, i32_w]; rw [c5b0]) | skip)
      replace H := Option.bind_eq_some_iff.mp H
      obtain ⟨t184, A60, H⟩ := H
      replace H : (if 6 + t184.size ≤ 9223372036854775807 then (cachepotref3_Tell.j0 k ((⟨#[101, 114, 114, 111, 114, 32]⟩ : ByteArray) ++ t184) a0_0 a0_1 a0_2 a0_3 l0_4 l0_5 l0_6) else (none)) = some r := H
      have A6 := Aside0.mk A60
      clear A60
      by_cases c7 : 6 + t184.size ≤ 9223372036854775807
      · rw [if_pos c7] at H
        have c7b0 := eq_true c7
        have c7b1 : decide (6 + t184.size ≤ 9223372036854775807) = true := decide_eq_true c7
        try have c7b2 : (9223372036854775807 < 6 + t184.size) = False := eq_false (Nat.not_lt.2 c7)
        have H' := Aside0.mk H
        clear H
        have hcz8_0 : w3.cell? ⟨gb183, 0, none⟩ = some (.int .i64 a0_0) := (blk_cell BK183.out 0).trans rfl
        have hcz8_1 : w3.cell? ⟨gb183, 1, none⟩ = some (.int .i64 a0_1) := (blk_cell BK183.out 1).trans rfl
        have hcz8_2 : w3.cell? ⟨gb183, 2, none⟩ = some (.int .u32 a0_2) := (blk_cell BK183.out 2).trans rfl
        have hcz8_3 : w3.cell? ⟨gb183, 3, none⟩ = some (.int .i64 a0_3) := (blk_cell BK183.out 3).trans rfl
        have hcz8_4 : w3.cell? ⟨gb183, 4, none⟩ = some (.slice A0_4 l0_4.length c0_4) := (blk_cell BK183.out 4).trans rfl
        have hcz8_5 : w3.cell? ⟨gb183, 5, none⟩ = some (.slice A0_5 l0_5.length c0_5) := (blk_cell BK183.out 5).trans rfl
        have hcz8_6 : w3.cell? ⟨gb183, 6, none⟩ = some (.slice A0_6 l0_6.length c0_6) := (blk_cell BK183.out 6).trans rfl
        have hfz8_0 := blk_frozen BK183.out 0
        have hfz8_1 := blk_frozen BK183.out 1
        have hfz8_2 := blk_frozen BK183.out 2
        have hfz8_3 := blk_frozen BK183.out 3
        have hfz8_4 := blk_frozen BK183.out 4
        have hfz8_5 := blk_frozen BK183.out 5
        have hfz8_6 := blk_frozen BK183.out 6
        go_wp2_with (first | ((with_reducible refine gate_callee (f := 13) rfl ?_); refine goesL_ (some 13) rfl rfl Tryz.func13 (by kernel_rfl) rfl #[.int .i64 a0_0] rfl (by (try simp only [List.map_toArray, List.map_cons, List.map_nil]); first | done | rfl | (simp only [List.length_drop, List.length_take]; rfl)) ?_; (with_reducible refine (cachepotref3_Digits.calls k a0_0 t184 _ A6.out).mono ?_); rintro e w9 ⟨rfl, hb⟩; refine ⟨_, rfl, ?_⟩; have n0_ := Aside0.mk (blk_below (g := gb183) (o := .cells #[.int .i64 a0_0, .int .i64 a0_1, .int .u32 a0_2, .int .i64 a0_3, .slice A0_4 l0_4.length c0_4, .slice A0_5 l0_5.length c0_5, .slice A0_6 l0_6.length c0_6] 27 (0, 0)) (by (with_reducible repeat (first | refine blk_drewN ?_ _ | refine blk_drew ?_ | refine blk_alloc ?_ _)); exact BK183.out) hb); have n1_ := Aside0.mk (below_step (by repeat (first | (with_reducible first | exact HB.out | apply below_alloc | apply pw_below_drewN | apply below_drew1 | refine below_set ?_ GE183.out) | exact HB.out)) hb); clear BK183; clear HB; have BK183 := n0_; have HB := n1_; clear n0_ n1_; (try clear hb); (try clear hb2); (try clear hk); (try clear hi)))
        go_meet
        case rel => exact ⟨_, ((⟨#[101, 114, 114, 111, 114, 32]⟩ : ByteArray) ++ t184), (by first | rfl | (simp; done) | (simp [*]; done)), H', ⟨by first | omega | exact Nat.le_refl _⟩, ⟨by (with_reducible repeat (first | refine blk_drewN ?_ _ | refine blk_drew ?_ | refine blk_alloc ?_ _)); exact BK183.out⟩, ⟨by repeat (first | (with_reducible first | exact HB.out | apply below_alloc | apply pw_below_drewN | apply below_drew1 | refine below_set ?_ GE183.out) | exact HB.out)⟩⟩
      · rw [if_neg c7] at H
        exact absurd H (by simp)
  case rest =>
    clear HC2
    try clear c1
    try clear p2
    try clear c5
    try clear c5b0
    try clear c5b1
    try clear c7
    try clear c7b0
    try clear c7b1
    try clear c7b2
    try clear hcz4_0
    try clear hcz4_1
    try clear hcz4_2
    try clear hcz4_3
    try clear hcz4_4
    try clear hcz4_5
    try clear hcz4_6
    try clear hcz8_0
    try clear hcz8_1
    try clear hcz8_2
    try clear hcz8_3
    try clear hcz8_4
    try clear hcz8_5
    try clear hcz8_6
    try clear hfz4_0
    try clear hfz4_1
    try clear hfz4_2
    try clear hfz4_3
    try clear hfz4_4
    try clear hfz4_5
    try clear hfz4_6
    try clear hfz8_0
    try clear hfz8_1
    try clear hfz8_2
    try clear hfz8_3
    try clear hfz8_4
    try clear hfz8_5
    try clear hfz8_6
    obtain ⟨kq, x3_1, rfl, HA, HJ1, BK183, HB⟩ := hcut
    cases kq with
    | zero => exact absurd HA.out (by simp [cachepotref3_Tell.j0])
    | succ kj1 =>
      have H := HA.out
      clear HA
      simp only [cachepotref3_Tell.j0] at H
      have HC10 := Aside0.mk H
      clear H
      have hcz11_0 : wc.cell? ⟨gb183, 0, none⟩ = some (.int .i64 a0_0) := (blk_cell BK183.out 0).trans rfl
      have hcz11_1 : wc.cell? ⟨gb183, 1, none⟩ = some (.int .i64 a0_1) := (blk_cell BK183.out 1).trans rfl
      have hcz11_2 : wc.cell? ⟨gb183, 2, none⟩ = some (.int .u32 a0_2) := (blk_cell BK183.out 2).trans rfl
      have hcz11_3 : wc.cell? ⟨gb183, 3, none⟩ = some (.int .i64 a0_3) := (blk_cell BK183.out 3).trans rfl
      have hcz11_4 : wc.cell? ⟨gb183, 4, none⟩ = some (.slice A0_4 l0_4.length c0_4) := (blk_cell BK183.out 4).trans rfl
      have hcz11_5 : wc.cell? ⟨gb183, 5, none⟩ = some (.slice A0_5 l0_5.length c0_5) := (blk_cell BK183.out 5).trans rfl
      have hcz11_6 : wc.cell? ⟨gb183, 6, none⟩ = some (.slice A0_6 l0_6.length c0_6) := (blk_cell BK183.out 6).trans rfl
      have hfz11_0 := blk_frozen BK183.out 0
      have hfz11_1 := blk_frozen BK183.out 1
      have hfz11_2 := blk_frozen BK183.out 2
      have hfz11_3 := blk_frozen BK183.out 3
      have hfz11_4 := blk_frozen BK183.out 4
      have hfz11_5 := blk_frozen BK183.out 5
      have hfz11_6 := blk_frozen BK183.out 6
      go_upto_if 17 with (fail)
      go_cut [3] (fun v3 wc => ∃ (kq : Nat) (x3_9 : ByteArray), v3 = .string x3_9 ∧ Aside0 (cachepotref3_Tell.j1 kq x3_9 a0_0 a0_1 a0_2 a0_3 l0_4 l0_5 l0_6 = some r) ∧ Aside0 (kq ≤ kj1) ∧ Aside0 (wc.heap[gb183]? = some (.cells #[.int .i64 a0_0, .int .i64 a0_1, .int .u32 a0_2, .int .i64 a0_3, (.slice A0_4 l0_4.length c0_4), (.slice A0_5 l0_5.length c0_5), (.slice A0_6 l0_6.length c0_6)] 27 (0, 0))) ∧ Aside0 (Below w.heap.size w wc))
      case first =>
        have H := HC10.out
        clear HC10
        by_cases c12 : a0_1 = 0
        · rw [if_pos c12] at H
          have c12b0 : (a0_1 == 0) = true := beq_iff_eq.mpr c12
          have c12b1 : (a0_1 != 0) = false := bne_eq_false_iff_eq.mpr c12
          clear c12
          (first | rw [c12b0] | (simp only [i64_w, i32_w]; rw [c12b0]) | skip)
          have H' := Aside0.mk H
          clear H
          go_wp2
          go_meet
          case rel => exact ⟨_, (x3_1), (by first | rfl | (simp; done) | (simp [*]; done)), H', ⟨by have := HJ1.out; first | omega | exact Nat.le_refl _⟩, ⟨by (with_reducible repeat (first | refine blk_drewN ?_ _ | refine blk_drew ?_ | refine blk_alloc ?_ _)); exact BK183.out⟩, ⟨by repeat (first | (with_reducible first | exact HB.out | apply below_alloc | apply pw_below_drewN | apply below_drew1 | refine below_set ?_ GE183.out) | exact HB.out)⟩⟩
        · rw [if_neg c12] at H
          have c12b0 : (a0_1 == 0) = false := beq_eq_false_iff_ne.mpr c12
          have c12b1 : (a0_1 != 0) = true := bne_iff_ne.mpr c12
          (first | rw [c12b0] | (simp only [i64_w, i32_w]; rw [c12b0]) | skip)
          replace H := Option.bind_eq_some_iff.mp H
          obtain ⟨t185, A130, H⟩ := H
          replace H : (if 9 + t185.size ≤ 9223372036854775807 then (if x3_1.size + ((⟨#[32, 115, 101, 115, 115, 105, 111, 110, 32]⟩ : ByteArray) ++ t185).size ≤ 9223372036854775807 then (cachepotref3_Tell.j1 kj1 (x3_1 ++ ((⟨#[32, 115, 101, 115, 115, 105, 111, 110, 32]⟩ : ByteArray) ++ t185)) a0_0 a0_1 a0_2 a0_3 l0_4 l0_5 l0_6) else (none)) else (none)) = some r := H
          have A13 := Aside0.mk A130
          clear A130
          by_cases c14 : 9 + t185.size ≤ 9223372036854775807
          · rw [if_pos c14] at H
            have c14b0 := eq_true c14
            have c14b1 : decide (9 + t185.size ≤ 9223372036854775807) = true := decide_eq_true c14
            try have c14b2 : (9223372036854775807 < 9 + t185.size) = False := eq_false (Nat.not_lt.2 c14)
            by_cases c15 : x3_1.size + ((⟨#[32, 115, 101, 115, 115, 105, 111, 110, 32]⟩ : ByteArray) ++ t185).size ≤ 9223372036854775807
            · rw [if_pos c15] at H
              have c15b0 := eq_true c15
              have c15b1 : decide (x3_1.size + ((⟨#[32, 115, 101, 115, 115, 105, 111, 110, 32]⟩ : ByteArray) ++ t185).size ≤ 9223372036854775807) = true := decide_eq_true c15
              try have c15b2 : (9223372036854775807 < x3_1.size + ((⟨#[32, 115, 101, 115, 115, 105, 111, 110, 32]⟩ : ByteArray) ++ t185).size) = False := eq_false (Nat.not_lt.2 c15)
              try have c15b9 : (9223372036854775807 < x3_1.size + (9 + t185.size)) = False := by (have h_ := c15b2; rw [ByteArray.size_append] at h_; exact h_)
              have H' := Aside0.mk H
              clear H
              have hcz16_0 : wc.cell? ⟨gb183, 0, none⟩ = some (.int .i64 a0_0) := (blk_cell BK183.out 0).trans rfl
              have hcz16_1 : wc.cell? ⟨gb183, 1, none⟩ = some (.int .i64 a0_1) := (blk_cell BK183.out 1).trans rfl
              have hcz16_2 : wc.cell? ⟨gb183, 2, none⟩ = some (.int .u32 a0_2) := (blk_cell BK183.out 2).trans rfl
              have hcz16_3 : wc.cell? ⟨gb183, 3, none⟩ = some (.int .i64 a0_3) := (blk_cell BK183.out 3).trans rfl
              have hcz16_4 : wc.cell? ⟨gb183, 4, none⟩ = some (.slice A0_4 l0_4.length c0_4) := (blk_cell BK183.out 4).trans rfl
              have hcz16_5 : wc.cell? ⟨gb183, 5, none⟩ = some (.slice A0_5 l0_5.length c0_5) := (blk_cell BK183.out 5).trans rfl
              have hcz16_6 : wc.cell? ⟨gb183, 6, none⟩ = some (.slice A0_6 l0_6.length c0_6) := (blk_cell BK183.out 6).trans rfl
              have hfz16_0 := blk_frozen BK183.out 0
              have hfz16_1 := blk_frozen BK183.out 1
              have hfz16_2 := blk_frozen BK183.out 2
              have hfz16_3 := blk_frozen BK183.out 3
              have hfz16_4 := blk_frozen BK183.out 4
              have hfz16_5 := blk_frozen BK183.out 5
              have hfz16_6 := blk_frozen BK183.out 6
              go_wp2_with (first | ((with_reducible refine gate_callee (f := 13) rfl ?_); refine goesL_ (some 21) rfl rfl Tryz.func13 (by kernel_rfl) rfl #[.int .i64 a0_1] rfl (by (try simp only [List.map_toArray, List.map_cons, List.map_nil]); first | done | rfl | (simp only [List.length_drop, List.length_take]; rfl)) ?_; (with_reducible refine (cachepotref3_Digits.calls kj1 a0_1 t185 _ A13.out).mono ?_); rintro e w17 ⟨rfl, hb⟩; refine ⟨_, rfl, ?_⟩; have n0_ := Aside0.mk (blk_below (g := gb183) (o := .cells #[.int .i64 a0_0, .int .i64 a0_1, .int .u32 a0_2, .int .i64 a0_3, .slice A0_4 l0_4.length c0_4, .slice A0_5 l0_5.length c0_5, .slice A0_6 l0_6.length c0_6] 27 (0, 0)) (by (with_reducible repeat (first | refine blk_drewN ?_ _ | refine blk_drew ?_ | refine blk_alloc ?_ _)); exact BK183.out) hb); have n1_ := Aside0.mk (below_step (by repeat (first | (with_reducible first | exact HB.out | apply below_alloc | apply pw_below_drewN | apply below_drew1 | refine below_set ?_ GE183.out) | exact HB.out)) hb); clear BK183; clear HB; have BK183 := n0_; have HB := n1_; clear n0_ n1_; (try clear hb); (try clear hb2); (try clear hk); (try clear hi)))
              go_meet
              case rel => exact ⟨_, (x3_1 ++ ((⟨#[32, 115, 101, 115, 115, 105, 111, 110, 32]⟩ : ByteArray) ++ t185)), (by first | rfl | (simp; done) | (simp [*]; done)), H', ⟨by have := HJ1.out; first | omega | exact Nat.le_refl _⟩, ⟨by (with_reducible repeat (first | refine blk_drewN ?_ _ | refine blk_drew ?_ | refine blk_alloc ?_ _)); exact BK183.out⟩, ⟨by repeat (first | (with_reducible first | exact HB.out | apply below_alloc | apply pw_below_drewN | apply below_drew1 | refine below_set ?_ GE183.out) | exact HB.out)⟩⟩
            · rw [if_neg c15] at H
              exact absurd H (by simp)
          · rw [if_neg c14] at H
            exact absurd H (by simp)
      case rest =>
        clear HC10
        try clear c1
        try clear p2
        try clear c5
        try clear c5b0
        try clear c5b1
        try clear c7
        try clear c7b0
        try clear c7b1
        try clear c7b2
        try clear c12
        try clear c12b0
        try clear c12b1
        try clear c13
        try clear c14
        try clear c14b0
        try clear c14b1
        try clear c14b2
        try clear c15
        try clear c15b0
        try clear c15b1
        try clear c15b2
        try clear hcz11_0
        try clear hcz11_1
        try clear hcz11_2
        try clear hcz11_3
        try clear hcz11_4
        try clear hcz11_5
        try clear hcz11_6
        try clear hcz16_0
        try clear hcz16_1
        try clear hcz16_2
        try clear hcz16_3
        try clear hcz16_4
        try clear hcz16_5
        try clear hcz16_6
        try clear hcz4_0
        try clear hcz4_1
        try clear hcz4_2
        try clear hcz4_3
        try clear hcz4_4
        try clear hcz4_5
        try clear hcz4_6
        try clear hcz8_0
        try clear hcz8_1
        try clear hcz8_2
        try clear hcz8_3
        try clear hcz8_4
        try clear hcz8_5
        try clear hcz8_6
        try clear hfz11_0
        try clear hfz11_1
        try clear hfz11_2
        try clear hfz11_3
        try clear hfz11_4
        try clear hfz11_5
        try clear hfz11_6
        try clear hfz16_0
        try clear hfz16_1
        try clear hfz16_2
        try clear hfz16_3
        try clear hfz16_4
        try clear hfz16_5
        try clear hfz16_6
        try clear hfz4_0
        try clear hfz4_1
        try clear hfz4_2
        try clear hfz4_3
        try clear hfz4_4
        try clear hfz4_5
        try clear hfz4_6
        try clear hfz8_0
        try clear hfz8_1
        try clear hfz8_2
        try clear hfz8_3
        try clear hfz8_4
        try clear hfz8_5
        try clear hfz8_6
        try clear p2
        obtain ⟨kq, x3_9, rfl, HA, HJ9, BK183, HB⟩ := hcut
        cases kq with
        | zero => exact absurd HA.out (by simp [cachepotref3_Tell.j1])
        | succ kj9 =>
          have H := HA.out
          clear HA
          simp only [cachepotref3_Tell.j1] at H
          have HC18 := Aside0.mk H
          clear H
          have hcz19_0 : wc.cell? ⟨gb183, 0, none⟩ = some (.int .i64 a0_0) := (blk_cell BK183.out 0).trans rfl
          have hcz19_1 : wc.cell? ⟨gb183, 1, none⟩ = some (.int .i64 a0_1) := (blk_cell BK183.out 1).trans rfl
          have hcz19_2 : wc.cell? ⟨gb183, 2, none⟩ = some (.int .u32 a0_2) := (blk_cell BK183.out 2).trans rfl
          have hcz19_3 : wc.cell? ⟨gb183, 3, none⟩ = some (.int .i64 a0_3) := (blk_cell BK183.out 3).trans rfl
          have hcz19_4 : wc.cell? ⟨gb183, 4, none⟩ = some (.slice A0_4 l0_4.length c0_4) := (blk_cell BK183.out 4).trans rfl
          have hcz19_5 : wc.cell? ⟨gb183, 5, none⟩ = some (.slice A0_5 l0_5.length c0_5) := (blk_cell BK183.out 5).trans rfl
          have hcz19_6 : wc.cell? ⟨gb183, 6, none⟩ = some (.slice A0_6 l0_6.length c0_6) := (blk_cell BK183.out 6).trans rfl
          have hfz19_0 := blk_frozen BK183.out 0
          have hfz19_1 := blk_frozen BK183.out 1
          have hfz19_2 := blk_frozen BK183.out 2
          have hfz19_3 := blk_frozen BK183.out 3
          have hfz19_4 := blk_frozen BK183.out 4
          have hfz19_5 := blk_frozen BK183.out 5
          have hfz19_6 := blk_frozen BK183.out 6
          go_upto_if 26 with (fail)
          go_cut [3] (fun v3 wc => ∃ (kq : Nat) (x3_17 : ByteArray), v3 = .string x3_17 ∧ Aside0 (cachepotref3_Tell.j2 kq x3_17 a0_0 a0_1 a0_2 a0_3 l0_4 l0_5 l0_6 = some r) ∧ Aside0 (kq ≤ kj9) ∧ Aside0 (wc.heap[gb183]? = some (.cells #[.int .i64 a0_0, .int .i64 a0_1, .int .u32 a0_2, .int .i64 a0_3, (.slice A0_4 l0_4.length c0_4), (.slice A0_5 l0_5.length c0_5), (.slice A0_6 l0_6.length c0_6)] 27 (0, 0))) ∧ Aside0 (Below w.heap.size w wc))
          case first =>
            have H := HC18.out
            clear HC18
            by_cases c20 : a0_2 = 0
            · rw [if_pos c20] at H
              have c20b0 : (a0_2 == 0) = true := beq_iff_eq.mpr c20
              have c20b1 : (a0_2 != 0) = false := bne_eq_false_iff_eq.mpr c20
              clear c20
              (first | rw [c20b0] | (simp only [i64_w, i32_w]; rw [c20b0]) | skip)
              have H' := Aside0.mk H
              clear H
              go_wp2
              go_meet
              case rel => exact ⟨_, (x3_9), (by first | rfl | (simp; done) | (simp [*]; done)), H', ⟨by have := HJ1.out; have := HJ9.out; first | omega | exact Nat.le_refl _⟩, ⟨by (with_reducible repeat (first | refine blk_drewN ?_ _ | refine blk_drew ?_ | refine blk_alloc ?_ _)); exact BK183.out⟩, ⟨by repeat (first | (with_reducible first | exact HB.out | apply below_alloc | apply pw_below_drewN | apply below_drew1 | refine below_set ?_ GE183.out) | exact HB.out)⟩⟩
            · rw [if_neg c20] at H
              have c20b0 : (a0_2 == 0) = false := beq_eq_false_iff_ne.mpr c20
              have c20b1 : (a0_2 != 0) = true := bne_iff_ne.mpr c20
              (first | rw [c20b0] | (simp only [i64_w, i32_w]; rw [c20b0]) | skip)
              replace H := Option.bind_eq_some_iff.mp H
              obtain ⟨t186, A210, H⟩ := H
              replace H : (if 5 + t186.size ≤ 9223372036854775807 then (if x3_9.size + ((⟨#[32, 115, 101, 113, 32]⟩ : ByteArray) ++ t186).size ≤ 9223372036854775807 then (cachepotref3_Tell.j2 kj9 (x3_9 ++ ((⟨#[32, 115, 101, 113, 32]⟩ : ByteArray) ++ t186)) a0_0 a0_1 a0_2 a0_3 l0_4 l0_5 l0_6) else (none)) else (none)) = some r := H
              have A21 := Aside0.mk A210
              clear A210
              by_cases c22 : 5 + t186.size ≤ 9223372036854775807
              · rw [if_pos c22] at H
                have c22b0 := eq_true c22
                have c22b1 : decide (5 + t186.size ≤ 9223372036854775807) = true := decide_eq_true c22
                try have c22b2 : (9223372036854775807 < 5 + t186.size) = False := eq_false (Nat.not_lt.2 c22)
                by_cases c23 : x3_9.size + ((⟨#[32, 115, 101, 113, 32]⟩ : ByteArray) ++ t186).size ≤ 9223372036854775807
                · rw [if_pos c23] at H
                  have c23b0 := eq_true c23
                  have c23b1 : decide (x3_9.size + ((⟨#[32, 115, 101, 113, 32]⟩ : ByteArray) ++ t186).size ≤ 9223372036854775807) = true := decide_eq_true c23
                  try have c23b2 : (9223372036854775807 < x3_9.size + ((⟨#[32, 115, 101, 113, 32]⟩ : ByteArray) ++ t186).size) = False := eq_false (Nat.not_lt.2 c23)
                  try have c23b9 : (9223372036854775807 < x3_9.size + (5 + t186.size)) = False := by (have h_ := c23b2; rw [ByteArray.size_append] at h_; exact h_)
                  have H' := Aside0.mk H
                  clear H
                  have hcz24_0 : wc.cell? ⟨gb183, 0, none⟩ = some (.int .i64 a0_0) := (blk_cell BK183.out 0).trans rfl
                  have hcz24_1 : wc.cell? ⟨gb183, 1, none⟩ = some (.int .i64 a0_1) := (blk_cell BK183.out 1).trans rfl
                  have hcz24_2 : wc.cell? ⟨gb183, 2, none⟩ = some (.int .u32 a0_2) := (blk_cell BK183.out 2).trans rfl
                  have hcz24_3 : wc.cell? ⟨gb183, 3, none⟩ = some (.int .i64 a0_3) := (blk_cell BK183.out 3).trans rfl
                  have hcz24_4 : wc.cell? ⟨gb183, 4, none⟩ = some (.slice A0_4 l0_4.length c0_4) := (blk_cell BK183.out 4).trans rfl
                  have hcz24_5 : wc.cell? ⟨gb183, 5, none⟩ = some (.slice A0_5 l0_5.length c0_5) := (blk_cell BK183.out 5).trans rfl
                  have hcz24_6 : wc.cell? ⟨gb183, 6, none⟩ = some (.slice A0_6 l0_6.length c0_6) := (blk_cell BK183.out 6).trans rfl
                  have hfz24_0 := blk_frozen BK183.out 0
                  have hfz24_1 := blk_frozen BK183.out 1
                  have hfz24_2 := blk_frozen BK183.out 2
                  have hfz24_3 := blk_frozen BK183.out 3
                  have hfz24_4 := blk_frozen BK183.out 4
                  have hfz24_5 := blk_frozen BK183.out 5
                  have hfz24_6 := blk_frozen BK183.out 6
                  go_wp2_with (first | ((with_reducible refine gate_callee (f := 13) rfl ?_); refine goesL_ (some 31) rfl rfl Tryz.func13 (by kernel_rfl) rfl #[.int .i64 (wrap64 (a0_2))] rfl (by (try simp only [List.map_toArray, List.map_cons, List.map_nil]); first | done | rfl | (simp only [List.length_drop, List.length_take]; rfl)) ?_; (with_reducible refine (cachepotref3_Digits.calls kj9 (wrap64 (a0_2)) t186 _ A21.out).mono ?_); rintro e w25 ⟨rfl, hb⟩; refine ⟨_, rfl, ?_⟩; have n0_ := Aside0.mk (blk_below (g := gb183) (o := .cells #[.int .i64 a0_0, .int .i64 a0_1, .int .u32 a0_2, .int .i64 a0_3, .slice A0_4 l0_4.length c0_4, .slice A0_5 l0_5.length c0_5, .slice A0_6 l0_6.length c0_6] 27 (0, 0)) (by (with_reducible repeat (first | refine blk_drewN ?_ _ | refine blk_drew ?_ | refine blk_alloc ?_ _)); exact BK183.out) hb); have n1_ := Aside0.mk (below_step (by repeat (first | (with_reducible first | exact HB.out | apply below_alloc | apply pw_below_drewN | apply below_drew1 | refine below_set ?_ GE183.out) | exact HB.out)) hb); clear BK183; clear HB; have BK183 := n0_; have HB := n1_; clear n0_ n1_; (try clear hb); (try clear hb2); (try clear hk); (try clear hi)))
                  go_meet
                  case rel => exact ⟨_, (x3_9 ++ ((⟨#[32, 115, 101, 113, 32]⟩ : ByteArray) ++ t186)), (by first | rfl | (simp; done) | (simp [*]; done)), H', ⟨by have := HJ1.out; have := HJ9.out; first | omega | exact Nat.le_refl _⟩, ⟨by (with_reducible repeat (first | refine blk_drewN ?_ _ | refine blk_drew ?_ | refine blk_alloc ?_ _)); exact BK183.out⟩, ⟨by repeat (first | (with_reducible first | exact HB.out | apply below_alloc | apply pw_below_drewN | apply below_drew1 | refine below_set ?_ GE183.out) | exact HB.out)⟩⟩
                · rw [if_neg c23] at H
                  exact absurd H (by simp)
              · rw [if_neg c22] at H
                exact absurd H (by simp)
          case rest =>
            clear HC18
            try clear c1
            try clear c2
            try clear p2
            try clear c5
            try clear c5b0
            try clear c5b1
            try clear p6
            try clear c7
            try clear c7b0
            try clear c7b1
            try clear c7b2
            try clear c12
            try clear c12b0
            try clear c12b1
            try clear c13
            try clear c14
            try clear c14b0
            try clear c14b1
            try clear c14b2
            try clear c15
            try clear c15b0
            try clear c15b1
            try clear c15b2
            try clear c20
            try clear c20b0
            try clear c20b1
            try clear c22
            try clear c22b0
            try clear c22b1
            try clear c22b2
            try clear c23
            try clear c23b0
            try clear c23b1
            try clear c23b2
            try clear hcz11_0
            try clear hcz11_1
            try clear hcz11_2
            try clear hcz11_3
            try clear hcz11_4
            try clear hcz11_5
            try clear hcz11_6
            try clear hcz16_0
            try clear hcz16_1
            try clear hcz16_2
            try clear hcz16_3
            try clear hcz16_4
            try clear hcz16_5
            try clear hcz16_6
            try clear hcz19_0
            try clear hcz19_1
            try clear hcz19_2
            try clear hcz19_3
            try clear hcz19_4
            try clear hcz19_5
            try clear hcz19_6
            try clear hcz24_0
            try clear hcz24_1
            try clear hcz24_2
            try clear hcz24_3
            try clear hcz24_4
            try clear hcz24_5
            try clear hcz24_6
            try clear hcz4_0
            try clear hcz4_1
            try clear hcz4_2
            try clear hcz4_3
            try clear hcz4_4
            try clear hcz4_5
            try clear hcz4_6
            try clear hcz8_0
            try clear hcz8_1
            try clear hcz8_2
            try clear hcz8_3
            try clear hcz8_4
            try clear hcz8_5
            try clear hcz8_6
            try clear hfz11_0
            try clear hfz11_1
            try clear hfz11_2
            try clear hfz11_3
            try clear hfz11_4
            try clear hfz11_5
            try clear hfz11_6
            try clear hfz16_0
            try clear hfz16_1
            try clear hfz16_2
            try clear hfz16_3
            try clear hfz16_4
            try clear hfz16_5
            try clear hfz16_6
            try clear hfz19_0
            try clear hfz19_1
            try clear hfz19_2
            try clear hfz19_3
            try clear hfz19_4
            try clear hfz19_5
            try clear hfz19_6
            try clear hfz24_0
            try clear hfz24_1
            try clear hfz24_2
            try clear hfz24_3
            try clear hfz24_4
            try clear hfz24_5
            try clear hfz24_6
            try clear hfz4_0
            try clear hfz4_1
            try clear hfz4_2
            try clear hfz4_3
            try clear hfz4_4
            try clear hfz4_5
            try clear hfz4_6
            try clear hfz8_0
            try clear hfz8_1
            try clear hfz8_2
            try clear hfz8_3
            try clear hfz8_4
            try clear hfz8_5
            try clear hfz8_6
            try clear p2
            obtain ⟨kq, x3_17, rfl, HA, HJ17, BK183, HB⟩ := hcut
            cases kq with
            | zero => exact absurd HA.out (by simp [cachepotref3_Tell.j2])
            | succ kj17 =>
              have H := HA.out
              clear HA
              simp only [cachepotref3_Tell.j2] at H
              have HC26 := Aside0.mk H
              clear H
              have hcz27_0 : wc.cell? ⟨gb183, 0, none⟩ = some (.int .i64 a0_0) := (blk_cell BK183.out 0).trans rfl
              have hcz27_1 : wc.cell? ⟨gb183, 1, none⟩ = some (.int .i64 a0_1) := (blk_cell BK183.out 1).trans rfl
              have hcz27_2 : wc.cell? ⟨gb183, 2, none⟩ = some (.int .u32 a0_2) := (blk_cell BK183.out 2).trans rfl
              have hcz27_3 : wc.cell? ⟨gb183, 3, none⟩ = some (.int .i64 a0_3) := (blk_cell BK183.out 3).trans rfl
              have hcz27_4 : wc.cell? ⟨gb183, 4, none⟩ = some (.slice A0_4 l0_4.length c0_4) := (blk_cell BK183.out 4).trans rfl
              have hcz27_5 : wc.cell? ⟨gb183, 5, none⟩ = some (.slice A0_5 l0_5.length c0_5) := (blk_cell BK183.out 5).trans rfl
              have hcz27_6 : wc.cell? ⟨gb183, 6, none⟩ = some (.slice A0_6 l0_6.length c0_6) := (blk_cell BK183.out 6).trans rfl
              have hfz27_0 := blk_frozen BK183.out 0
              have hfz27_1 := blk_frozen BK183.out 1
              have hfz27_2 := blk_frozen BK183.out 2
              have hfz27_3 := blk_frozen BK183.out 3
              have hfz27_4 := blk_frozen BK183.out 4
              have hfz27_5 := blk_frozen BK183.out 5
              have hfz27_6 := blk_frozen BK183.out 6
              go_upto_if 36 with (fail)
              go_cut [3] (fun v3 wc => ∃ (kq : Nat) (x3_25 : ByteArray), v3 = .string x3_25 ∧ Aside0 (cachepotref3_Tell.j3 kq x3_25 a0_0 a0_1 a0_2 a0_3 l0_4 l0_5 l0_6 = some r) ∧ Aside0 (kq ≤ kj17) ∧ Aside0 (wc.heap[gb183]? = some (.cells #[.int .i64 a0_0, .int .i64 a0_1, .int .u32 a0_2, .int .i64 a0_3, (.slice A0_4 l0_4.length c0_4), (.slice A0_5 l0_5.length c0_5), (.slice A0_6 l0_6.length c0_6)] 27 (0, 0))) ∧ Aside0 (Below w.heap.size w wc))
              case first =>
                have H := HC26.out
                clear HC26
                by_cases c28 : a0_3 = 0
                · rw [if_pos c28] at H
                  have c28b0 : (a0_3 == 0) = true := beq_iff_eq.mpr c28
                  have c28b1 : (a0_3 != 0) = false := bne_eq_false_iff_eq.mpr c28
                  clear c28
                  (first | rw [c28b0] | (simp only [i64_w, i32_w]; rw [c28b0]) | skip)
                  have H' := Aside0.mk H
                  clear H
                  go_wp2
                  go_meet
                  case rel => exact ⟨_, (x3_17), (by first | rfl | (simp; done) | (simp [*]; done)), H', ⟨by have := HJ1.out; have := HJ9.out; have := HJ17.out; first | omega | exact Nat.le_refl _⟩, ⟨by (with_reducible repeat (first | refine blk_drewN ?_ _ | refine blk_drew ?_ | refine blk_alloc ?_ _)); exact BK183.out⟩, ⟨by repeat (first | (with_reducible first | exact HB.out | apply below_alloc | apply pw_below_drewN | apply below_drew1 | refine below_set ?_ GE183.out) | exact HB.out)⟩⟩
                · rw [if_neg c28] at H
                  have c28b0 : (a0_3 == 0) = false := beq_eq_false_iff_ne.mpr c28
                  have c28b1 : (a0_3 != 0) = true := bne_iff_ne.mpr c28
                  (first | rw [c28b0] | (simp only [i64_w, i32_w]; rw [c28b0]) | skip)
                  replace H := Option.bind_eq_some_iff.mp H
                  obtain ⟨t187, A290, H⟩ := H
                  replace H : (if 3 + t187.size ≤ 9223372036854775807 then (if x3_17.size + ((⟨#[32, 110, 32]⟩ : ByteArray) ++ t187).size ≤ 9223372036854775807 then (cachepotref3_Tell.j3 kj17 (x3_17 ++ ((⟨#[32, 110, 32]⟩ : ByteArray) ++ t187)) a0_0 a0_1 a0_2 a0_3 l0_4 l0_5 l0_6) else (none)) else (none)) = some r := H
                  have A29 := Aside0.mk A290
                  clear A290
                  by_cases c30 : 3 + t187.size ≤ 9223372036854775807
                  · rw [if_pos c30] at H
                    have c30b0 := eq_true c30
                    have c30b1 : decide (3 + t187.size ≤ 9223372036854775807) = true := decide_eq_true c30
                    try have c30b2 : (9223372036854775807 < 3 + t187.size) = False := eq_false (Nat.not_lt.2 c30)
                    by_cases c31 : x3_17.size + ((⟨#[32, 110, 32]⟩ : ByteArray) ++ t187).size ≤ 9223372036854775807
                    · rw [if_pos c31] at H
                      have c31b0 := eq_true c31
                      have c31b1 : decide (x3_17.size + ((⟨#[32, 110, 32]⟩ : ByteArray) ++ t187).size ≤ 9223372036854775807) = true := decide_eq_true c31
                      try have c31b2 : (9223372036854775807 < x3_17.size + ((⟨#[32, 110, 32]⟩ : ByteArray) ++ t187).size) = False := eq_false (Nat.not_lt.2 c31)
                      try have c31b9 : (9223372036854775807 < x3_17.size + (3 + t187.size)) = False := by (have h_ := c31b2; rw [ByteArray.size_append] at h_; exact h_)
                      have H' := Aside0.mk H
                      clear H
                      have hcz32_0 : wc.cell? ⟨gb183, 0, none⟩ = some (.int .i64 a0_0) := (blk_cell BK183.out 0).trans rfl
                      have hcz32_1 : wc.cell? ⟨gb183, 1, none⟩ = some (.int .i64 a0_1) := (blk_cell BK183.out 1).trans rfl
                      have hcz32_2 : wc.cell? ⟨gb183, 2, none⟩ = some (.int .u32 a0_2) := (blk_cell BK183.out 2).trans rfl
                      have hcz32_3 : wc.cell? ⟨gb183, 3, none⟩ = some (.int .i64 a0_3) := (blk_cell BK183.out 3).trans rfl
                      have hcz32_4 : wc.cell? ⟨gb183, 4, none⟩ = some (.slice A0_4 l0_4.length c0_4) := (blk_cell BK183.out 4).trans rfl
                      have hcz32_5 : wc.cell? ⟨gb183, 5, none⟩ = some (.slice A0_5 l0_5.length c0_5) := (blk_cell BK183.out 5).trans rfl
                      have hcz32_6 : wc.cell? ⟨gb183, 6, none⟩ = some (.slice A0_6 l0_6.length c0_6) := (blk_cell BK183.out 6).trans rfl
                      have hfz32_0 := blk_frozen BK183.out 0
                      have hfz32_1 := blk_frozen BK183.out 1
                      have hfz32_2 := blk_frozen BK183.out 2
                      have hfz32_3 := blk_frozen BK183.out 3
                      have hfz32_4 := blk_frozen BK183.out 4
                      have hfz32_5 := blk_frozen BK183.out 5
                      have hfz32_6 := blk_frozen BK183.out 6
                      go_wp2_with (first | ((with_reducible refine gate_callee (f := 13) rfl ?_); refine goesL_ (some 40) rfl rfl Tryz.func13 (by kernel_rfl) rfl #[.int .i64 a0_3] rfl (by (try simp only [List.map_toArray, List.map_cons, List.map_nil]); first | done | rfl | (simp only [List.length_drop, List.length_take]; rfl)) ?_; (with_reducible refine (cachepotref3_Digits.calls kj17 a0_3 t187 _ A29.out).mono ?_); rintro e w33 ⟨rfl, hb⟩; refine ⟨_, rfl, ?_⟩; have n0_ := Aside0.mk (blk_below (g := gb183) (o := .cells #[.int .i64 a0_0, .int .i64 a0_1, .int .u32 a0_2, .int .i64 a0_3, .slice A0_4 l0_4.length c0_4, .slice A0_5 l0_5.length c0_5, .slice A0_6 l0_6.length c0_6] 27 (0, 0)) (by (with_reducible repeat (first | refine blk_drewN ?_ _ | refine blk_drew ?_ | refine blk_alloc ?_ _)); exact BK183.out) hb); have n1_ := Aside0.mk (below_step (by repeat (first | (with_reducible first | exact HB.out | apply below_alloc | apply pw_below_drewN | apply below_drew1 | refine below_set ?_ GE183.out) | exact HB.out)) hb); clear BK183; clear HB; have BK183 := n0_; have HB := n1_; clear n0_ n1_; (try clear hb); (try clear hb2); (try clear hk); (try clear hi)))
                      go_meet
                      case rel => exact ⟨_, (x3_17 ++ ((⟨#[32, 110, 32]⟩ : ByteArray) ++ t187)), (by first | rfl | (simp; done) | (simp [*]; done)), H', ⟨by have := HJ1.out; have := HJ9.out; have := HJ17.out; first | omega | exact Nat.le_refl _⟩, ⟨by (with_reducible repeat (first | refine blk_drewN ?_ _ | refine blk_drew ?_ | refine blk_alloc ?_ _)); exact BK183.out⟩, ⟨by repeat (first | (with_reducible first | exact HB.out | apply below_alloc | apply pw_below_drewN | apply below_drew1 | refine below_set ?_ GE183.out) | exact HB.out)⟩⟩
                    · rw [if_neg c31] at H
                      exact absurd H (by simp)
                  · rw [if_neg c30] at H
                    exact absurd H (by simp)
              case rest =>
                clear HC26
                try clear c1
                try clear c2
                try clear p2
                try clear c3
                try clear c5
                try clear c5b0
                try clear c5b1
                try clear p6
                try clear c7
                try clear c7b0
                try clear c7b1
                try clear c7b2
                try clear c12
                try clear c12b0
                try clear c12b1
                try clear c13
                try clear c14
                try clear c14b0
                try clear c14b1
                try clear c14b2
                try clear c15
                try clear c15b0
                try clear c15b1
                try clear c15b2
                try clear c20
                try clear c20b0
                try clear c20b1
                try clear c22
                try clear c22b0
                try clear c22b1
                try clear c22b2
                try clear c23
                try clear c23b0
                try clear c23b1
                try clear c23b2
                try clear c28
                try clear c28b0
                try clear c28b1
                try clear c30
                try clear c30b0
                try clear c30b1
                try clear c30b2
                try clear c31
                try clear c31b0
                try clear c31b1
                try clear c31b2
                try clear hcz11_0
                try clear hcz11_1
                try clear hcz11_2
                try clear hcz11_3
                try clear hcz11_4
                try clear hcz11_5
                try clear hcz11_6
                try clear hcz16_0
                try clear hcz16_1
                try clear hcz16_2
                try clear hcz16_3
                try clear hcz16_4
                try clear hcz16_5
                try clear hcz16_6
                try clear hcz19_0
                try clear hcz19_1
                try clear hcz19_2
                try clear hcz19_3
                try clear hcz19_4
                try clear hcz19_5
                try clear hcz19_6
                try clear hcz24_0
                try clear hcz24_1
                try clear hcz24_2
                try clear hcz24_3
                try clear hcz24_4
                try clear hcz24_5
                try clear hcz24_6
                try clear hcz27_0
                try clear hcz27_1
                try clear hcz27_2
                try clear hcz27_3
                try clear hcz27_4
                try clear hcz27_5
                try clear hcz27_6
                try clear hcz32_0
                try clear hcz32_1
                try clear hcz32_2
                try clear hcz32_3
                try clear hcz32_4
                try clear hcz32_5
                try clear hcz32_6
                try clear hcz4_0
                try clear hcz4_1
                try clear hcz4_2
                try clear hcz4_3
                try clear hcz4_4
                try clear hcz4_5
                try clear hcz4_6
                try clear hcz8_0
                try clear hcz8_1
                try clear hcz8_2
                try clear hcz8_3
                try clear hcz8_4
                try clear hcz8_5
                try clear hcz8_6
                try clear hfz11_0
                try clear hfz11_1
                try clear hfz11_2
                try clear hfz11_3
                try clear hfz11_4
                try clear hfz11_5
                try clear hfz11_6
                try clear hfz16_0
                try clear hfz16_1
                try clear hfz16_2
                try clear hfz16_3
                try clear hfz16_4
                try clear hfz16_5
                try clear hfz16_6
                try clear hfz19_0
                try clear hfz19_1
                try clear hfz19_2
                try clear hfz19_3
                try clear hfz19_4
                try clear hfz19_5
                try clear hfz19_6
                try clear hfz24_0
                try clear hfz24_1
                try clear hfz24_2
                try clear hfz24_3
                try clear hfz24_4
                try clear hfz24_5
                try clear hfz24_6
                try clear hfz27_0
                try clear hfz27_1
                try clear hfz27_2
                try clear hfz27_3
                try clear hfz27_4
                try clear hfz27_5
                try clear hfz27_6
                try clear hfz32_0
                try clear hfz32_1
                try clear hfz32_2
                try clear hfz32_3
                try clear hfz32_4
                try clear hfz32_5
                try clear hfz32_6
                try clear hfz4_0
                try clear hfz4_1
                try clear hfz4_2
                try clear hfz4_3
                try clear hfz4_4
                try clear hfz4_5
                try clear hfz4_6
                try clear hfz8_0
                try clear hfz8_1
                try clear hfz8_2
                try clear hfz8_3
                try clear hfz8_4
                try clear hfz8_5
                try clear hfz8_6
                try clear p2
                try clear p6
                obtain ⟨kq, x3_25, rfl, HA, HJ25, BK183, HB⟩ := hcut
                cases kq with
                | zero => exact absurd HA.out (by simp [cachepotref3_Tell.j3])
                | succ kj25 =>
                  have H := HA.out
                  clear HA
                  simp only [cachepotref3_Tell.j3] at H
                  have H' := Aside0.mk H
                  clear H
                  go_wp2
                  go_loopg [3, 4] kj25 (fun kq v3 v4 w' => ∃ (x3_5 : ByteArray) (x4_5 : Int), v3 = .string x3_5 ∧ v4 = .int .i64 x4_5 ∧ Aside0 (cachepotref3_Tell.l0 kq x3_5 x4_5 a0_0 a0_1 a0_2 a0_3 l0_4 l0_5 l0_6 = some r) ∧ Aside0 (kq ≤ kj25) ∧ Aside0 (w'.heap[gb183]? = some (.cells #[.int .i64 a0_0, .int .i64 a0_1, .int .u32 a0_2, .int .i64 a0_3, (.slice A0_4 l0_4.length c0_4), (.slice A0_5 l0_5.length c0_5), (.slice A0_6 l0_6.length c0_6)] 27 (0, 0))) ∧ Aside0 (Below w.heap.size w w'))
                  case atStart => exact ⟨(x3_25), (0), (by first | rfl | (simp; done) | (simp [*]; done)), (by first | rfl | (simp; done) | (simp [*]; done)), H', ⟨Nat.le_refl _⟩, ⟨by (with_reducible repeat (first | refine blk_drewN ?_ _ | refine blk_drew ?_ | refine blk_alloc ?_ _)); exact BK183.out⟩, ⟨by repeat (first | (with_reducible first | exact HB.out | apply below_alloc | apply pw_below_drewN | apply below_drew1 | refine below_set ?_ GE183.out) | exact HB.out)⟩⟩
                  case round =>
                    clear H'
                    try clear c1
                    try clear c2
                    try clear p2
                    try clear c3
                    try clear c5
                    try clear c5b0
                    try clear c5b1
                    try clear p6
                    try clear c7
                    try clear c7b0
                    try clear c7b1
                    try clear c7b2
                    try clear c12
                    try clear c12b0
                    try clear c12b1
                    try clear c13
                    try clear c14
                    try clear c14b0
                    try clear c14b1
                    try clear c14b2
                    try clear c15
                    try clear c15b0
                    try clear c15b1
                    try clear c15b2
                    try clear c20
                    try clear c20b0
                    try clear c20b1
                    try clear c22
                    try clear c22b0
                    try clear c22b1
                    try clear c22b2
                    try clear c23
                    try clear c23b0
                    try clear c23b1
                    try clear c23b2
                    try clear c28
                    try clear c28b0
                    try clear c28b1
                    try clear c30
                    try clear c30b0
                    try clear c30b1
                    try clear c30b2
                    try clear c31
                    try clear c31b0
                    try clear c31b1
                    try clear c31b2
                    try clear hcz11_0
                    try clear hcz11_1
                    try clear hcz11_2
                    try clear hcz11_3
                    try clear hcz11_4
                    try clear hcz11_5
                    try clear hcz11_6
                    try clear hcz16_0
                    try clear hcz16_1
                    try clear hcz16_2
                    try clear hcz16_3
                    try clear hcz16_4
                    try clear hcz16_5
                    try clear hcz16_6
                    try clear hcz19_0
                    try clear hcz19_1
                    try clear hcz19_2
                    try clear hcz19_3
                    try clear hcz19_4
                    try clear hcz19_5
                    try clear hcz19_6
                    try clear hcz24_0
                    try clear hcz24_1
                    try clear hcz24_2
                    try clear hcz24_3
                    try clear hcz24_4
                    try clear hcz24_5
                    try clear hcz24_6
                    try clear hcz27_0
                    try clear hcz27_1
                    try clear hcz27_2
                    try clear hcz27_3
                    try clear hcz27_4
                    try clear hcz27_5
                    try clear hcz27_6
                    try clear hcz32_0
                    try clear hcz32_1
                    try clear hcz32_2
                    try clear hcz32_3
                    try clear hcz32_4
                    try clear hcz32_5
                    try clear hcz32_6
                    try clear hcz4_0
                    try clear hcz4_1
                    try clear hcz4_2
                    try clear hcz4_3
                    try clear hcz4_4
                    try clear hcz4_5
                    try clear hcz4_6
                    try clear hcz8_0
                    try clear hcz8_1
                    try clear hcz8_2
                    try clear hcz8_3
                    try clear hcz8_4
                    try clear hcz8_5
                    try clear hcz8_6
                    try clear hfz11_0
                    try clear hfz11_1
                    try clear hfz11_2
                    try clear hfz11_3
                    try clear hfz11_4
                    try clear hfz11_5
                    try clear hfz11_6
                    try clear hfz16_0
                    try clear hfz16_1
                    try clear hfz16_2
                    try clear hfz16_3
                    try clear hfz16_4
                    try clear hfz16_5
                    try clear hfz16_6
                    try clear hfz19_0
                    try clear hfz19_1
                    try clear hfz19_2
                    try clear hfz19_3
                    try clear hfz19_4
                    try clear hfz19_5
                    try clear hfz19_6
                    try clear hfz24_0
                    try clear hfz24_1
                    try clear hfz24_2
                    try clear hfz24_3
                    try clear hfz24_4
                    try clear hfz24_5
                    try clear hfz24_6
                    try clear hfz27_0
                    try clear hfz27_1
                    try clear hfz27_2
                    try clear hfz27_3
                    try clear hfz27_4
                    try clear hfz27_5
                    try clear hfz27_6
                    try clear hfz32_0
                    try clear hfz32_1
                    try clear hfz32_2
                    try clear hfz32_3
                    try clear hfz32_4
                    try clear hfz32_5
                    try clear hfz32_6
                    try clear hfz4_0
                    try clear hfz4_1
                    try clear hfz4_2
                    try clear hfz4_3
                    try clear hfz4_4
                    try clear hfz4_5
                    try clear hfz4_6
                    try clear hfz8_0
                    try clear hfz8_1
                    try clear hfz8_2
                    try clear hfz8_3
                    try clear hfz8_4
                    try clear hfz8_5
                    try clear hfz8_6
                    try clear p2
                    try clear p6
                    obtain ⟨x3_5, x4_5, rfl, rfl, HA, HK5, BK183, HB⟩ := hrel
                    cases gk with
                    | zero => exact absurd HA.out (by simp [cachepotref3_Tell.l0])
                    | succ k5 =>
                      have H := HA.out
                      clear HA
                      simp only [cachepotref3_Tell.l0] at H
                      by_cases c34 : x4_5 < (l0_4.length : Int)
                      · rw [if_pos c34] at H
                        have c34b0 : decide (x4_5 < (l0_4.length : Int)) = true := decide_eq_true c34
                        clear c34
                        by_cases c35 : 0 ≤ x4_5
                        · rw [if_pos c35] at H
                          have c35b0 : decide (0 ≤ x4_5) = true := decide_eq_true c35
                          clear c35
                          obtain ⟨bq36, hbq36⟩ : ∃ b_ : Bool, b_ = ((rd_T39 l0_4 x4_5).f1) := ⟨_, rfl⟩
                          replace H : (if bq36 = true then ((cachepotref3_Quote.f ((rd_T39 l0_4 x4_5).f0)).bind fun t190 => (if 1 + t190.size ≤ 9223372036854775807 then (if ((⟨#[32]⟩ : ByteArray) ++ t190).size + 1 ≤ 9223372036854775807 then ((cachepotref3_Quote.f ((rd_T39 l0_4 x4_5).f2)).bind fun t191 => (if (((⟨#[32]⟩ : ByteArray) ++ t190) ++ (⟨#[61]⟩ : ByteArray)).size + t191.size ≤ 9223372036854775807 then (if ((((⟨#[32]⟩ : ByteArray) ++ t190) ++ (⟨#[61]⟩ : ByteArray)) ++ t191).size + 1 ≤ 9223372036854775807 then ((cachepotref3_Digits.f k5 (wrap64 ((rd_T39 l0_4 x4_5).f3))).bind fun t192 => (if (((((⟨#[32]⟩ : ByteArray) ++ t190) ++ (⟨#[61]⟩ : ByteArray)) ++ t191) ++ (⟨#[64]⟩ : ByteArray)).size + t192.size ≤ 9223372036854775807 then (if x3_5.size + ((((((⟨#[32]⟩ : ByteArray) ++ t190) ++ (⟨#[61]⟩ : ByteArray)) ++ t191) ++ (⟨#[64]⟩ : ByteArray)) ++ t192).size ≤ 9223372036854775807 then (cachepotref3_Tell.l0 k5 (x3_5 ++ ((((((⟨#[32]⟩ : ByteArray) ++ t190) ++ (⟨#[61]⟩ : ByteArray)) ++ t191) ++ (⟨#[64]⟩ : ByteArray)) ++ t192)) (wrap64 (x4_5 + 1)) a0_0 a0_1 a0_2 a0_3 l0_4 l0_5 l0_6) else (none)) else (none))) else (none)) else (none))) else (none)) else (none))) else ((cachepotref3_Quote.f ((rd_T39 l0_4 x4_5).f0)).bind fun t193 => (if 1 + t193.size ≤ 9223372036854775807 then (if ((⟨#[32]⟩ : ByteArray) ++ t193).size + 1 ≤ 9223372036854775807 then (if x3_5.size + (((⟨#[32]⟩ : ByteArray) ++ t193) ++ (⟨#[63]⟩ : ByteArray)).size ≤ 9223372036854775807 then (cachepotref3_Tell.l0 k5 (x3_5 ++ (((⟨#[32]⟩ : ByteArray) ++ t193) ++ (⟨#[63]⟩ : ByteArray))) (wrap64 (x4_5 + 1)) a0_0 a0_1 a0_2 a0_3 l0_4 l0_5 l0_6) else (none)) else (none)) else (none)))) = some r := by rw [← hbq36] at H; exact H
                          have Nbq36 := Aside0.mk hbq36
                          clear hbq36
                          by_cases c37 : bq36 = true
                          · subst c37
                            have H1 : ((cachepotref3_Quote.f ((rd_T39 l0_4 x4_5).f0)).bind fun t190 => (if 1 + t190.size ≤ 9223372036854775807 then (if ((⟨#[32]⟩ : ByteArray) ++ t190).size + 1 ≤ 9223372036854775807 then ((cachepotref3_Quote.f ((rd_T39 l0_4 x4_5).f2)).bind fun t191 => (if (((⟨#[32]⟩ : ByteArray) ++ t190) ++ (⟨#[61]⟩ : ByteArray)).size + t191.size ≤ 9223372036854775807 then (if ((((⟨#[32]⟩ : ByteArray) ++ t190) ++ (⟨#[61]⟩ : ByteArray)) ++ t191).size + 1 ≤ 9223372036854775807 then ((cachepotref3_Digits.f k5 (wrap64 ((rd_T39 l0_4 x4_5).f3))).bind fun t192 => (if (((((⟨#[32]⟩ : ByteArray) ++ t190) ++ (⟨#[61]⟩ : ByteArray)) ++ t191) ++ (⟨#[64]⟩ : ByteArray)).size + t192.size ≤ 9223372036854775807 then (if x3_5.size + ((((((⟨#[32]⟩ : ByteArray) ++ t190) ++ (⟨#[61]⟩ : ByteArray)) ++ t191) ++ (⟨#[64]⟩ : ByteArray)) ++ t192).size ≤ 9223372036854775807 then (cachepotref3_Tell.l0 k5 (x3_5 ++ ((((((⟨#[32]⟩ : ByteArray) ++ t190) ++ (⟨#[61]⟩ : ByteArray)) ++ t191) ++ (⟨#[64]⟩ : ByteArray)) ++ t192)) (wrap64 (x4_5 + 1)) a0_0 a0_1 a0_2 a0_3 l0_4 l0_5 l0_6) else (none)) else (none))) else (none)) else (none))) else (none)) else (none))) = some r := by rw [if_pos rfl] at H; exact H
                            clear H
                            have H := H1
                            clear H1
                            replace H := Option.bind_eq_some_iff.mp H
                            obtain ⟨t190, A380, H⟩ := H
                            replace H : (if 1 + t190.size ≤ 9223372036854775807 then (if ((⟨#[32]⟩ : ByteArray) ++ t190).size + 1 ≤ 9223372036854775807 then ((cachepotref3_Quote.f ((rd_T39 l0_4 x4_5).f2)).bind fun t191 => (if (((⟨#[32]⟩ : ByteArray) ++ t190) ++ (⟨#[61]⟩ : ByteArray)).size + t191.size ≤ 9223372036854775807 then (if ((((⟨#[32]⟩ : ByteArray) ++ t190) ++ (⟨#[61]⟩ : ByteArray)) ++ t191).size + 1 ≤ 9223372036854775807 then ((cachepotref3_Digits.f k5 (wrap64 ((rd_T39 l0_4 x4_5).f3))).bind fun t192 => (if (((((⟨#[32]⟩ : ByteArray) ++ t190) ++ (⟨#[61]⟩ : ByteArray)) ++ t191) ++ (⟨#[64]⟩ : ByteArray)).size + t192.size ≤ 9223372036854775807 then (if x3_5.size + ((((((⟨#[32]⟩ : ByteArray) ++ t190) ++ (⟨#[61]⟩ : ByteArray)) ++ t191) ++ (⟨#[64]⟩ : ByteArray)) ++ t192).size ≤ 9223372036854775807 then (cachepotref3_Tell.l0 k5 (x3_5 ++ ((((((⟨#[32]⟩ : ByteArray) ++ t190) ++ (⟨#[61]⟩ : ByteArray)) ++ t191) ++ (⟨#[64]⟩ : ByteArray)) ++ t192)) (wrap64 (x4_5 + 1)) a0_0 a0_1 a0_2 a0_3 l0_4 l0_5 l0_6) else (none)) else (none))) else (none)) else (none))) else (none)) else (none)) = some r := H
                            have A38 := Aside0.mk A380
                            clear A380
                            by_cases c39 : 1 + t190.size ≤ 9223372036854775807
                            · rw [if_pos c39] at H
                              have c39b0 := eq_true c39
                              have c39b1 : decide (1 + t190.size ≤ 9223372036854775807) = true := decide_eq_true c39
                              try have c39b2 : (9223372036854775807 < 1 + t190.size) = False := eq_false (Nat.not_lt.2 c39)
                              by_cases c40 : ((⟨#[32]⟩ : ByteArray) ++ t190).size + 1 ≤ 9223372036854775807
                              · rw [if_pos c40] at H
                                have c40b0 := eq_true c40
                                have c40b1 : decide (((⟨#[32]⟩ : ByteArray) ++ t190).size + 1 ≤ 9223372036854775807) = true := decide_eq_true c40
                                try have c40b2 : (9223372036854775807 < ((⟨#[32]⟩ : ByteArray) ++ t190).size + 1) = False := eq_false (Nat.not_lt.2 c40)
                                try have c40b9 : (9223372036854775807 < 1 + t190.size + 1) = False := by (have h_ := c40b2; rw [ByteArray.size_append] at h_; exact h_)
                                replace H := Option.bind_eq_some_iff.mp H
                                obtain ⟨t191, A410, H⟩ := H
                                replace H : (if (((⟨#[32]⟩ : ByteArray) ++ t190) ++ (⟨#[61]⟩ : ByteArray)).size + t191.size ≤ 9223372036854775807 then (if ((((⟨#[32]⟩ : ByteArray) ++ t190) ++ (⟨#[61]⟩ : ByteArray)) ++ t191).size + 1 ≤ 9223372036854775807 then ((cachepotref3_Digits.f k5 (wrap64 ((rd_T39 l0_4 x4_5).f3))).bind fun t192 => (if (((((⟨#[32]⟩ : ByteArray) ++ t190) ++ (⟨#[61]⟩ : ByteArray)) ++ t191) ++ (⟨#[64]⟩ : ByteArray)).size + t192.size ≤ 9223372036854775807 then (if x3_5.size + ((((((⟨#[32]⟩ : ByteArray) ++ t190) ++ (⟨#[61]⟩ : ByteArray)) ++ t191) ++ (⟨#[64]⟩ : ByteArray)) ++ t192).size ≤ 9223372036854775807 then (cachepotref3_Tell.l0 k5 (x3_5 ++ ((((((⟨#[32]⟩ : ByteArray) ++ t190) ++ (⟨#[61]⟩ : ByteArray)) ++ t191) ++ (⟨#[64]⟩ : ByteArray)) ++ t192)) (wrap64 (x4_5 + 1)) a0_0 a0_1 a0_2 a0_3 l0_4 l0_5 l0_6) else (none)) else (none))) else (none)) else (none)) = some r := H
                                have A41 := Aside0.mk A410
                                clear A410
                                by_cases c42 : (((⟨#[32]⟩ : ByteArray) ++ t190) ++ (⟨#[61]⟩ : ByteArray)).size + t191.size ≤ 9223372036854775807
                                · rw [if_pos c42] at H
                                  have c42b0 := eq_true c42
                                  have c42b1 : decide ((((⟨#[32]⟩ : ByteArray) ++ t190) ++ (⟨#[61]⟩ : ByteArray)).size + t191.size ≤ 9223372036854775807) = true := decide_eq_true c42
                                  try have c42b2 : (9223372036854775807 < (((⟨#[32]⟩ : ByteArray) ++ t190) ++ (⟨#[61]⟩ : ByteArray)).size + t191.size) = False := eq_false (Nat.not_lt.2 c42)
                                  try have c42b9 : (9223372036854775807 < 1 + t190.size + 1 + t191.size) = False := by (have h_ := c42b2; rw [ByteArray.size_append] at h_; rw [ByteArray.size_append] at h_; exact h_)
                                  by_cases c43 : ((((⟨#[32]⟩ : ByteArray) ++ t190) ++ (⟨#[61]⟩ : ByteArray)) ++ t191).size + 1 ≤ 9223372036854775807
                                  · rw [if_pos c43] at H
                                    have c43b0 := eq_true c43
                                    have c43b1 : decide (((((⟨#[32]⟩ : ByteArray) ++ t190) ++ (⟨#[61]⟩ : ByteArray)) ++ t191).size + 1 ≤ 9223372036854775807) = true := decide_eq_true c43
                                    try have c43b2 : (9223372036854775807 < ((((⟨#[32]⟩ : ByteArray) ++ t190) ++ (⟨#[61]⟩ : ByteArray)) ++ t191).size + 1) = False := eq_false (Nat.not_lt.2 c43)
                                    try have c43b9 : (9223372036854775807 < 1 + t190.size + 1 + t191.size + 1) = False := by (have h_ := c43b2; rw [ByteArray.size_append] at h_; rw [ByteArray.size_append] at h_; rw [ByteArray.size_append] at h_; exact h_)
                                    replace H := Option.bind_eq_some_iff.mp H
                                    obtain ⟨t192, A440, H⟩ := H
                                    replace H : (if (((((⟨#[32]⟩ : ByteArray) ++ t190) ++ (⟨#[61]⟩ : ByteArray)) ++ t191) ++ (⟨#[64]⟩ : ByteArray)).size + t192.size ≤ 9223372036854775807 then (if x3_5.size + ((((((⟨#[32]⟩ : ByteArray) ++ t190) ++ (⟨#[61]⟩ : ByteArray)) ++ t191) ++ (⟨#[64]⟩ : ByteArray)) ++ t192).size ≤ 9223372036854775807 then (cachepotref3_Tell.l0 k5 (x3_5 ++ ((((((⟨#[32]⟩ : ByteArray) ++ t190) ++ (⟨#[61]⟩ : ByteArray)) ++ t191) ++ (⟨#[64]⟩ : ByteArray)) ++ t192)) (wrap64 (x4_5 + 1)) a0_0 a0_1 a0_2 a0_3 l0_4 l0_5 l0_6) else (none)) else (none)) = some r := H
                                    have A44 := Aside0.mk A440
                                    clear A440
                                    by_cases c45 : (((((⟨#[32]⟩ : ByteArray) ++ t190) ++ (⟨#[61]⟩ : ByteArray)) ++ t191) ++ (⟨#[64]⟩ : ByteArray)).size + t192.size ≤ 9223372036854775807
                                    · rw [if_pos c45] at H
                                      have c45b0 := eq_true c45
                                      have c45b1 : decide ((((((⟨#[32]⟩ : ByteArray) ++ t190) ++ (⟨#[61]⟩ : ByteArray)) ++ t191) ++ (⟨#[64]⟩ : ByteArray)).size + t192.size ≤ 9223372036854775807) = true := decide_eq_true c45
                                      try have c45b2 : (9223372036854775807 < (((((⟨#[32]⟩ : ByteArray) ++ t190) ++ (⟨#[61]⟩ : ByteArray)) ++ t191) ++ (⟨#[64]⟩ : ByteArray)).size + t192.size) = False := eq_false (Nat.not_lt.2 c45)
                                      try have c45b9 : (9223372036854775807 < 1 + t190.size + 1 + t191.size + 1 + t192.size) = False := by (have h_ := c45b2; rw [ByteArray.size_append] at h_; rw [ByteArray.size_append] at h_; rw [ByteArray.size_append] at h_; rw [ByteArray.size_append] at h_; exact h_)
                                      by_cases c46 : x3_5.size + ((((((⟨#[32]⟩ : ByteArray) ++ t190) ++ (⟨#[61]⟩ : ByteArray)) ++ t191) ++ (⟨#[64]⟩ : ByteArray)) ++ t192).size ≤ 9223372036854775807
                                      · rw [if_pos c46] at H
                                        have c46b0 := eq_true c46
                                        have c46b1 : decide (x3_5.size + ((((((⟨#[32]⟩ : ByteArray) ++ t190) ++ (⟨#[61]⟩ : ByteArray)) ++ t191) ++ (⟨#[64]⟩ : ByteArray)) ++ t192).size ≤ 9223372036854775807) = true := decide_eq_true c46
                                        try have c46b2 : (9223372036854775807 < x3_5.size + ((((((⟨#[32]⟩ : ByteArray) ++ t190) ++ (⟨#[61]⟩ : ByteArray)) ++ t191) ++ (⟨#[64]⟩ : ByteArray)) ++ t192).size) = False := eq_false (Nat.not_lt.2 c46)
                                        try have c46b9 : (9223372036854775807 < x3_5.size + (1 + t190.size + 1 + t191.size + 1 + t192.size)) = False := by (have h_ := c46b2; rw [ByteArray.size_append] at h_; rw [ByteArray.size_append] at h_; rw [ByteArray.size_append] at h_; rw [ByteArray.size_append] at h_; rw [ByteArray.size_append] at h_; exact h_)
                                        have H' := Aside0.mk H
                                        clear H
                                        have hcz47_0 : wr.cell? ⟨gb183, 0, none⟩ = some (.int .i64 a0_0) := (blk_cell BK183.out 0).trans rfl
                                        have hcz47_1 : wr.cell? ⟨gb183, 1, none⟩ = some (.int .i64 a0_1) := (blk_cell BK183.out 1).trans rfl
                                        have hcz47_2 : wr.cell? ⟨gb183, 2, none⟩ = some (.int .u32 a0_2) := (blk_cell BK183.out 2).trans rfl
                                        have hcz47_3 : wr.cell? ⟨gb183, 3, none⟩ = some (.int .i64 a0_3) := (blk_cell BK183.out 3).trans rfl
                                        have hcz47_4 : wr.cell? ⟨gb183, 4, none⟩ = some (.slice A0_4 l0_4.length c0_4) := (blk_cell BK183.out 4).trans rfl
                                        have hcz47_5 : wr.cell? ⟨gb183, 5, none⟩ = some (.slice A0_5 l0_5.length c0_5) := (blk_cell BK183.out 5).trans rfl
                                        have hcz47_6 : wr.cell? ⟨gb183, 6, none⟩ = some (.slice A0_6 l0_6.length c0_6) := (blk_cell BK183.out 6).trans rfl
                                        have hfz47_0 := blk_frozen BK183.out 0
                                        have hfz47_1 := blk_frozen BK183.out 1
                                        have hfz47_2 := blk_frozen BK183.out 2
                                        have hfz47_3 := blk_frozen BK183.out 3
                                        have hfz47_4 := blk_frozen BK183.out 4
                                        have hfz47_5 := blk_frozen BK183.out 5
                                        have hfz47_6 := blk_frozen BK183.out 6
                                        have p188 : 0 ≤ (x4_5 : Int) := of_decide_eq_true (by first | (with_reducible assumption) | assumption)
                                        have q188 : x4_5 < (l0_4.length : Int) := of_decide_eq_true (by first | (with_reducible assumption) | assumption)
                                        obtain ⟨ad188, e188, hx188_0, hx188_1, hx188_2, hx188_3⟩ := at_T39 HR0_4.out x4_5 p188 q188
                                        (try rw [← Nbq36.out] at hx188_1)
                                        (try rw [← Nbq36.out] at hw188_1)
                                        cases e188
                                        replace hx188_0 := (HB.out.cell (World.block_lt_of_cell? w _ hx188_0)).trans hx188_0
                                        replace hx188_1 := (HB.out.cell (World.block_lt_of_cell? w _ hx188_1)).trans hx188_1
                                        replace hx188_2 := (HB.out.cell (World.block_lt_of_cell? w _ hx188_2)).trans hx188_2
                                        replace hx188_3 := (HB.out.cell (World.block_lt_of_cell? w _ hx188_3)).trans hx188_3
                                        replace p188 := eq_true p188
                                        replace q188 := eq_true q188
                                        try go_wp2_with (first | ((with_reducible refine gate_dst (N := 5) rfl ?_); refine box_event ?hg (N := 5) ?hd (cs := #[.string (⟨#[]⟩ : ByteArray), .bool false, .string (⟨#[]⟩ : ByteArray), .int .u32 0]) (t := 39) ?hr ?_; (case hd => rfl); (case hg => rfl); (case hr => first | (go_simp; done) | (go_simp; rfl)); intro gb189 hg w48 hbox hb; have n0_ := Aside0.mk (blk_below (g := gb183) (o := .cells #[.int .i64 a0_0, .int .i64 a0_1, .int .u32 a0_2, .int .i64 a0_3, .slice (some ad188) l0_4.length c0_4, .slice A0_5 l0_5.length c0_5, .slice A0_6 l0_6.length c0_6] 27 (0, 0)) (by (with_reducible repeat (first | refine blk_drewN ?_ _ | refine blk_drew ?_ | refine blk_alloc ?_ _)); exact BK183.out) hb); have n1_ := Aside0.mk (below_step (by repeat (first | (with_reducible first | exact HB.out | apply below_alloc | apply pw_below_drewN | apply below_drew1 | refine below_set ?_ GE183.out) | exact HB.out)) hb); have n2_ := Aside0.mk (hbox); have n3_ := Aside0.mk ((by rw [hg]; exact (below_size (by repeat (first | (with_reducible first | exact HB.out | apply below_alloc | apply pw_below_drewN | apply below_drew1 | refine below_set ?_ GE183.out) | exact HB.out))) : w.heap.size ≤ gb189)); have n4_ := Aside0.mk ((by rw [hg]; exact (below_size (by repeat (first | (with_reducible first | exact HB.out | apply below_alloc | apply pw_below_drewN | apply below_drew1 | refine below_set ?_ GE183.out) | exact HB.out))) : w.heap.size ≤ gb189)); have n5_ := Aside0.mk ((by rw [hg]; exact Nat.ne_of_lt (blk_lt (g := gb183) (o := .cells #[.int .i64 a0_0, .int .i64 a0_1, .int .u32 a0_2, .int .i64 a0_3, .slice (some ad188) l0_4.length c0_4, .slice A0_5 l0_5.length c0_5, .slice A0_6 l0_6.length c0_6] 27 (0, 0)) (by (with_reducible repeat (first | refine blk_drewN ?_ _ | refine blk_drew ?_ | refine blk_alloc ?_ _)); exact BK183.out)) : gb183 ≠ gb189)); have n6_ := Aside0.mk ((by rw [hg]; exact Nat.ne_of_gt (blk_lt (g := gb183) (o := .cells #[.int .i64 a0_0, .int .i64 a0_1, .int .u32 a0_2, .int .i64 a0_3, .slice (some ad188) l0_4.length c0_4, .slice A0_5 l0_5.length c0_5, .slice A0_6 l0_6.length c0_6] 27 (0, 0)) (by (with_reducible repeat (first | refine blk_drewN ?_ _ | refine blk_drew ?_ | refine blk_alloc ?_ _)); exact BK183.out)) : gb189 ≠ gb183)); clear BK183; clear HB; have BK183 := n0_; have HB := n1_; have BK189 := n2_; have GW189 := n3_; have GE189 := n4_; have NB183_189 := n5_; have NB189_183 := n6_; clear n0_ n1_ n2_ n3_ n4_ n5_ n6_; clear hb hbox hg; have hnb49 := NB189_183.out; have hnc49 := NB183_189.out; have hcz50_0 : w48.cell? ⟨gb189, 0, none⟩ = some (.string (⟨#[]⟩ : ByteArray)) := (blk_cell BK189.out 0).trans rfl; have hcz50_1 : w48.cell? ⟨gb189, 1, none⟩ = some (.bool false) := (blk_cell BK189.out 1).trans rfl; have hcz50_2 : w48.cell? ⟨gb189, 2, none⟩ = some (.string (⟨#[]⟩ : ByteArray)) := (blk_cell BK189.out 2).trans rfl; have hcz50_3 : w48.cell? ⟨gb189, 3, none⟩ = some (.int .u32 0) := (blk_cell BK189.out 3).trans rfl; have hfz50_0 := blk_frozen BK189.out 0; have hfz50_1 := blk_frozen BK189.out 1; have hfz50_2 := blk_frozen BK189.out 2; have hfz50_3 := blk_frozen BK189.out 3))
                                        have n0_ : Aside0 (((((w48.setCell ⟨gb189, 0, none⟩ (.string ((rd_T39 l0_4 x4_5).f0))).setCell ⟨gb189, 1, none⟩ (.bool true)).setCell ⟨gb189, 2, none⟩ (.string ((rd_T39 l0_4 x4_5).f2))).setCell ⟨gb189, 3, none⟩ (.int .u32 ((rd_T39 l0_4 x4_5).f3))).heap[gb183]? = some (.cells #[.int .i64 a0_0, .int .i64 a0_1, .int .u32 a0_2, .int .i64 a0_3, .slice (some ad188) l0_4.length c0_4, .slice A0_5 l0_5.length c0_5, .slice A0_6 l0_6.length c0_6] 27 (0, 0))) := ⟨by (with_reducible repeat (first | refine blk_drewN ?_ _ | refine blk_drew ?_ | refine blk_alloc ?_ _)); refine blk_far ?_ NB183_189.out _; (with_reducible repeat (first | refine blk_drewN ?_ _ | refine blk_drew ?_ | refine blk_alloc ?_ _)); refine blk_far ?_ NB183_189.out _; (with_reducible repeat (first | refine blk_drewN ?_ _ | refine blk_drew ?_ | refine blk_alloc ?_ _)); refine blk_far ?_ NB183_189.out _; (with_reducible repeat (first | refine blk_drewN ?_ _ | refine blk_drew ?_ | refine blk_alloc ?_ _)); refine blk_far ?_ NB183_189.out _; (with_reducible repeat (first | refine blk_drewN ?_ _ | refine blk_drew ?_ | refine blk_alloc ?_ _)); exact BK183.out⟩
                                        have n1_ : Aside0 (((((w48.setCell ⟨gb189, 0, none⟩ (.string ((rd_T39 l0_4 x4_5).f0))).setCell ⟨gb189, 1, none⟩ (.bool true)).setCell ⟨gb189, 2, none⟩ (.string ((rd_T39 l0_4 x4_5).f2))).setCell ⟨gb189, 3, none⟩ (.int .u32 ((rd_T39 l0_4 x4_5).f3))).heap[gb189]? = some (.cells #[.string ((rd_T39 l0_4 x4_5).f0), .bool true, .string ((rd_T39 l0_4 x4_5).f2), .int .u32 ((rd_T39 l0_4 x4_5).f3)] 39 (0, 0))) := ⟨by (with_reducible repeat (first | refine blk_drewN ?_ _ | refine blk_drew ?_ | refine blk_alloc ?_ _)); refine blk_put (cs := #[.string ((rd_T39 l0_4 x4_5).f0), .bool true, .string ((rd_T39 l0_4 x4_5).f2), .int .u32 0]) ?_ 3 _ rfl; (with_reducible repeat (first | refine blk_drewN ?_ _ | refine blk_drew ?_ | refine blk_alloc ?_ _)); refine blk_put (cs := #[.string ((rd_T39 l0_4 x4_5).f0), .bool true, .string (⟨#[]⟩ : ByteArray), .int .u32 0]) ?_ 2 _ rfl; (with_reducible repeat (first | refine blk_drewN ?_ _ | refine blk_drew ?_ | refine blk_alloc ?_ _)); refine blk_put (cs := #[.string ((rd_T39 l0_4 x4_5).f0), .bool false, .string (⟨#[]⟩ : ByteArray), .int .u32 0]) ?_ 1 _ rfl; (with_reducible repeat (first | refine blk_drewN ?_ _ | refine blk_drew ?_ | refine blk_alloc ?_ _)); refine blk_put (cs := #[.string (⟨#[]⟩ : ByteArray), .bool false, .string (⟨#[]⟩ : ByteArray), .int .u32 0]) ?_ 0 _ rfl; (with_reducible repeat (first | refine blk_drewN ?_ _ | refine blk_drew ?_ | refine blk_alloc ?_ _)); exact BK189.out⟩
                                        have n2_ : Aside0 (Below w.heap.size w ((((w48.setCell ⟨gb189, 0, none⟩ (.string ((rd_T39 l0_4 x4_5).f0))).setCell ⟨gb189, 1, none⟩ (.bool true)).setCell ⟨gb189, 2, none⟩ (.string ((rd_T39 l0_4 x4_5).f2))).setCell ⟨gb189, 3, none⟩ (.int .u32 ((rd_T39 l0_4 x4_5).f3)))) := ⟨by repeat (first | (with_reducible first | exact HB.out | apply below_alloc | apply pw_below_drewN | apply below_drew1 | refine below_set ?_ GE183.out | refine below_set ?_ GE189.out) | exact HB.out)⟩
                                        (try clear BK183)
                                        (try clear BK189)
                                        (try clear HB)
                                        generalize ((((w48.setCell ⟨gb189, 0, none⟩ (.string ((rd_T39 l0_4 x4_5).f0))).setCell ⟨gb189, 1, none⟩ (.bool true)).setCell ⟨gb189, 2, none⟩ (.string ((rd_T39 l0_4 x4_5).f2))).setCell ⟨gb189, 3, none⟩ (.int .u32 ((rd_T39 l0_4 x4_5).f3))) = w51 at n0_ n1_ n2_ ⊢
                                        have BK183 := n0_
                                        have BK189 := n1_
                                        have HB := n2_
                                        clear n0_ n1_ n2_
                                        have n0_ := Aside0.mk (blk_drew BK183.out)
                                        have n1_ := Aside0.mk (blk_drew BK189.out)
                                        have n2_ := Aside0.mk (below_drew1 HB.out)
                                        clear BK183
                                        clear BK189
                                        clear HB
                                        have BK183 := n0_
                                        have BK189 := n1_
                                        have HB := n2_
                                        clear n0_ n1_ n2_
                                        refine start_ (n := 18) (S := fun w' => w'.cell? ⟨gb189, 0, none⟩ = some (.string ((rd_T39 l0_4 x4_5).f0)) ∧ w'.cell? ⟨gb189, 1, none⟩ = some (.bool true) ∧ w'.cell? ⟨gb189, 2, none⟩ = some (.string ((rd_T39 l0_4 x4_5).f2)) ∧ w'.cell? ⟨gb189, 3, none⟩ = some (.int .u32 ((rd_T39 l0_4 x4_5).f3))) (ds := []) #[false, false, false, false, false, false, false, false, false, false, false, false, false, false, false, false, false, false] (by kernel_rfl) rfl rfl ⟨(blk_cell BK189.out 0).trans rfl, (blk_cell BK189.out 1).trans rfl, (blk_cell BK189.out 2).trans rfl, (blk_cell BK189.out 3).trans rfl⟩ (fun hHeld => ?_); refine with_tabW cachepotref3_Tell.tab15 cachepotref3_Tell.bits15 (fun HT_ HW_ => ?_)
                                        generalize w51.drew = w52 at BK183 BK189 HB hHeld ⊢
                                        refine pure_ (i := 0) (N := some 57) (v := ?_) (a' := ?_) #[true, false, false, false, false, false, false, false, false, false, false, false, false, false, false, false, false, false] rfl rfl (any_of HT_.out (by kernel_rfl)) (fun _ _ _ h => h) (Or.inl ⟨by rfl, ?_⟩) ?_ ?_
                                        rotate_left
                                        · intro w'
                                          go_simp
                                          with_reducible rfl
                                        rotate_left
                                        · simp only [Act.put, List.setIfInBounds_toArray, List.set_cons_zero, List.set_cons_succ, i64_w, i32_w]
                                          rfl
                                        refine pure_ (i := 1) (N := some 58) (v := ?_) (a' := ?_) #[true, true, false, false, false, false, false, false, false, false, false, false, false, false, false, false, false, false] rfl rfl (any_of HT_.out (by kernel_rfl)) (fun _ _ _ h => h) (Or.inl ⟨by rfl, ?_⟩) ?_ ?_
                                        rotate_left
                                        · intro w'
                                          go_simp
                                          with_reducible rfl
                                        rotate_left
                                        · simp only [Act.put, List.setIfInBounds_toArray, List.set_cons_zero, List.set_cons_succ, i64_w, i32_w]
                                          rfl
                                        refine pure_ (i := 6) (N := some 63) (v := ?_) (a' := ?_) #[true, true, false, false, false, false, true, false, false, false, false, false, false, false, false, false, false, false] rfl rfl (any_of HT_.out (by kernel_rfl)) (fun _ _ _ h => h) (Or.inl ⟨by rfl, ?_⟩) ?_ ?_
                                        rotate_left
                                        · intro w'
                                          go_simp
                                          with_reducible rfl
                                        rotate_left
                                        · simp only [Act.put, List.setIfInBounds_toArray, List.set_cons_zero, List.set_cons_succ, i64_w, i32_w]
                                          rfl
                                        refine pure_ (i := 11) (N := some 68) (v := ?_) (a' := ?_) #[true, true, false, false, false, false, true, false, false, false, false, true, false, false, false, false, false, false] rfl rfl (any_of HT_.out (by kernel_rfl)) (fun _ _ _ h => h) (Or.inl ⟨by rfl, ?_⟩) ?_ ?_
                                        rotate_left
                                        · intro w'
                                          go_simp
                                          with_reducible rfl
                                        rotate_left
                                        · simp only [Act.put, List.setIfInBounds_toArray, List.set_cons_zero, List.set_cons_succ, i64_w, i32_w]
                                          rfl
                                        refine take_ (i := 2) (N := some 59) (v := ?_) (a' := ?_) #[true, true, true, false, false, false, true, false, false, false, false, true, false, false, false, false, false, false] rfl rfl (take_ofW HT_.out HW_.out (by kernel_rfl)) (fun _ _ _ h => h) (Or.inl ⟨by rfl, ?_⟩) hHeld ?_ ?_
                                        rotate_left
                                        · rintro w' ⟨s0, s1, s2, s3⟩
                                          go_simp
                                          with_reducible rfl
                                        rotate_left
                                        · simp only [Act.put, List.setIfInBounds_toArray, List.set_cons_zero, List.set_cons_succ, i64_w, i32_w]
                                          rfl
                                        refine take_ (i := 7) (N := some 64) (v := ?_) (a' := ?_) #[true, true, true, false, false, false, true, true, false, false, false, true, false, false, false, false, false, false] rfl rfl (take_ofW HT_.out HW_.out (by kernel_rfl)) (fun _ _ _ h => h) (Or.inl ⟨by rfl, ?_⟩) hHeld ?_ ?_
                                        rotate_left
                                        · rintro w' ⟨s0, s1, s2, s3⟩
                                          go_simp
                                          with_reducible rfl
                                        rotate_left
                                        · simp only [Act.put, List.setIfInBounds_toArray, List.set_cons_zero, List.set_cons_succ, i64_w, i32_w]
                                          rfl
                                        refine take_ (i := 12) (N := some 69) (v := ?_) (a' := ?_) #[true, true, true, false, false, false, true, true, false, false, false, true, true, false, false, false, false, false] rfl rfl (take_ofW HT_.out HW_.out (by kernel_rfl)) (fun _ _ _ h => h) (Or.inl ⟨by rfl, ?_⟩) hHeld ?_ ?_
                                        rotate_left
                                        · rintro w' ⟨s0, s1, s2, s3⟩
                                          go_simp
                                          with_reducible rfl
                                        rotate_left
                                        · simp only [Act.put, List.setIfInBounds_toArray, List.set_cons_zero, List.set_cons_succ, i64_w, i32_w]
                                          rfl
                                        refine pure_ (i := 13) (N := some 70) (v := ?_) (a' := ?_) #[true, true, true, false, false, false, true, true, false, false, false, true, true, true, false, false, false, false] rfl rfl (any_of HT_.out (by kernel_rfl)) (fun _ _ _ h => h) (Or.inl ⟨by rfl, ?_⟩) ?_ ?_
                                        rotate_left
                                        · intro w'
                                          go_simp
                                          with_reducible rfl
                                        rotate_left
                                        · simp only [Act.put, List.setIfInBounds_toArray, List.set_cons_zero, List.set_cons_succ, i64_w, i32_w]
                                          rfl
                                        refine one_ (i := 3) (N := some 60) #[true, true, true, true, false, false, true, true, false, false, false, true, true, true, false, false, false, false] rfl rfl (one_of HT_.out (by kernel_rfl)) (by decide) (fun K hK => ?_)
                                        refine goes_ Tryz.func14 (by kernel_rfl) rfl #[.string ((rd_T39 l0_4 x4_5).f0)] (by rfl) rfl rfl (by (try simp only [List.map_toArray, List.map_cons, List.map_nil]); first | done | rfl | (simp only [List.length_drop, List.length_take]; rfl)) ?_
                                        with_reducible refine (cachepotref3_Quote.calls ((rd_T39 l0_4 x4_5).f0) t190 _ A38.out).mono ?_
                                        rintro e w53 ⟨rfl, hb⟩
                                        refine ⟨_, rfl, ?_⟩
                                        have n0_ := Aside0.mk (blk_below (g := gb183) (o := .cells #[.int .i64 a0_0, .int .i64 a0_1, .int .u32 a0_2, .int .i64 a0_3, .slice (some ad188) l0_4.length c0_4, .slice A0_5 l0_5.length c0_5, .slice A0_6 l0_6.length c0_6] 27 (0, 0)) (by (with_reducible repeat (first | refine blk_drewN ?_ _ | refine blk_drew ?_ | refine blk_alloc ?_ _)); exact BK183.out) hb)
                                        have n1_ := Aside0.mk (blk_below (g := gb189) (o := .cells #[.string ((rd_T39 l0_4 x4_5).f0), .bool true, .string ((rd_T39 l0_4 x4_5).f2), .int .u32 ((rd_T39 l0_4 x4_5).f3)] 39 (0, 0)) (by (with_reducible repeat (first | refine blk_drewN ?_ _ | refine blk_drew ?_ | refine blk_alloc ?_ _)); exact BK189.out) hb)
                                        have n2_ := Aside0.mk (below_step (by repeat (first | (with_reducible first | exact HB.out | apply below_alloc | apply pw_below_drewN | apply below_drew1 | refine below_set ?_ GE183.out | refine below_set ?_ GE189.out) | exact HB.out)) hb)
                                        clear BK183
                                        clear BK189
                                        clear HB
                                        have BK183 := n0_
                                        have BK189 := n1_
                                        have HB := n2_
                                        clear n0_ n1_ n2_
                                        (try clear hb)
                                        (try clear hb2)
                                        (try clear hk)
                                        (try clear hi)
                                        refine hK.out _ _ ⟨(blk_cell BK189.out 0).trans rfl, (blk_cell BK189.out 1).trans rfl, (blk_cell BK189.out 2).trans rfl, (blk_cell BK189.out 3).trans rfl⟩ (fun hHeld => ?_)
                                        clear hK K
                                        refine norm_ (a' := ?_) ?_ ?_
                                        rotate_left
                                        · show Act.put _ (some 60) _ = _
                                          simp only [Act.put, List.setIfInBounds_toArray, List.set_cons_zero, List.set_cons_succ, i64_w, i32_w]
                                          rfl
                                        refine pure_ (i := 4) (N := some 61) (v := ?_) (a' := ?_) #[true, true, true, true, true, false, true, true, false, false, false, true, true, true, false, false, false, false] rfl rfl (any_of HT_.out (by kernel_rfl)) (fun _ _ _ h => h) (Or.inl ⟨by rfl, ?_⟩) ?_ ?_
                                        rotate_left
                                        · intro w'
                                          go_simp
                                          with_reducible rfl
                                        rotate_left
                                        · simp only [Act.put, List.setIfInBounds_toArray, List.set_cons_zero, List.set_cons_succ, i64_w, i32_w]
                                          rfl
                                        refine pure_ (i := 5) (N := some 62) (v := ?_) (a' := ?_) #[true, true, true, true, true, true, true, true, false, false, false, true, true, true, false, false, false, false] rfl rfl (any_of HT_.out (by kernel_rfl)) (fun _ _ _ h => h) (Or.inl ⟨by rfl, ?_⟩) ?_ ?_
                                        rotate_left
                                        · intro w'
                                          go_simp
                                          with_reducible rfl
                                        rotate_left
                                        · simp only [Act.put, List.setIfInBounds_toArray, List.set_cons_zero, List.set_cons_succ, i64_w, i32_w]
                                          rfl
                                        refine one_ (i := 8) (N := some 65) #[true, true, true, true, true, true, true, true, true, false, false, true, true, true, false, false, false, false] rfl rfl (one_of HT_.out (by kernel_rfl)) (by decide) (fun K hK => ?_)
                                        refine goes_ Tryz.func14 (by kernel_rfl) rfl #[.string ((rd_T39 l0_4 x4_5).f2)] (by rfl) rfl rfl (by (try simp only [List.map_toArray, List.map_cons, List.map_nil]); first | done | rfl | (simp only [List.length_drop, List.length_take]; rfl)) ?_
                                        with_reducible refine (cachepotref3_Quote.calls ((rd_T39 l0_4 x4_5).f2) t191 _ A41.out).mono ?_
                                        rintro e w54 ⟨rfl, hb⟩
                                        refine ⟨_, rfl, ?_⟩
                                        have n0_ := Aside0.mk (blk_below (g := gb183) (o := .cells #[.int .i64 a0_0, .int .i64 a0_1, .int .u32 a0_2, .int .i64 a0_3, .slice (some ad188) l0_4.length c0_4, .slice A0_5 l0_5.length c0_5, .slice A0_6 l0_6.length c0_6] 27 (0, 0)) (by (with_reducible repeat (first | refine blk_drewN ?_ _ | refine blk_drew ?_ | refine blk_alloc ?_ _)); exact BK183.out) hb)
                                        have n1_ := Aside0.mk (blk_below (g := gb189) (o := .cells #[.string ((rd_T39 l0_4 x4_5).f0), .bool true, .string ((rd_T39 l0_4 x4_5).f2), .int .u32 ((rd_T39 l0_4 x4_5).f3)] 39 (0, 0)) (by (with_reducible repeat (first | refine blk_drewN ?_ _ | refine blk_drew ?_ | refine blk_alloc ?_ _)); exact BK189.out) hb)
                                        have n2_ := Aside0.mk (below_step (by repeat (first | (with_reducible first | exact HB.out | apply below_alloc | apply pw_below_drewN | apply below_drew1 | refine below_set ?_ GE183.out | refine below_set ?_ GE189.out) | exact HB.out)) hb)
                                        clear BK183
                                        clear BK189
                                        clear HB
                                        have BK183 := n0_
                                        have BK189 := n1_
                                        have HB := n2_
                                        clear n0_ n1_ n2_
                                        (try clear hb)
                                        (try clear hb2)
                                        (try clear hk)
                                        (try clear hi)
                                        refine hK.out _ _ ⟨(blk_cell BK189.out 0).trans rfl, (blk_cell BK189.out 1).trans rfl, (blk_cell BK189.out 2).trans rfl, (blk_cell BK189.out 3).trans rfl⟩ (fun hHeld => ?_)
                                        clear hK K
                                        refine norm_ (a' := ?_) ?_ ?_
                                        rotate_left
                                        · show Act.put _ (some 65) _ = _
                                          simp only [Act.put, List.setIfInBounds_toArray, List.set_cons_zero, List.set_cons_succ, i64_w, i32_w]
                                          rfl
                                        refine pure_ (i := 9) (N := some 66) (v := ?_) (a' := ?_) #[true, true, true, true, true, true, true, true, true, true, false, true, true, true, false, false, false, false] rfl rfl (any_of HT_.out (by kernel_rfl)) (fun _ _ _ h => h) (Or.inl ⟨by rfl, ?_⟩) ?_ ?_
                                        rotate_left
                                        · intro w'
                                          go_simp
                                          with_reducible rfl
                                        rotate_left
                                        · simp only [Act.put, List.setIfInBounds_toArray, List.set_cons_zero, List.set_cons_succ, i64_w, i32_w]
                                          rfl
                                        refine pure_ (i := 10) (N := some 67) (v := ?_) (a' := ?_) #[true, true, true, true, true, true, true, true, true, true, true, true, true, true, false, false, false, false] rfl rfl (any_of HT_.out (by kernel_rfl)) (fun _ _ _ h => h) (Or.inl ⟨by rfl, ?_⟩) ?_ ?_
                                        rotate_left
                                        · intro w'
                                          go_simp
                                          with_reducible rfl
                                        rotate_left
                                        · simp only [Act.put, List.setIfInBounds_toArray, List.set_cons_zero, List.set_cons_succ, i64_w, i32_w]
                                          rfl
                                        refine one_ (i := 14) (N := some 71) #[true, true, true, true, true, true, true, true, true, true, true, true, true, true, true, false, false, false] rfl rfl (one_of HT_.out (by kernel_rfl)) (by decide) (fun K hK => ?_)
                                        refine goes_ Tryz.func13 (by kernel_rfl) rfl #[.int .i64 (wrap64 ((rd_T39 l0_4 x4_5).f3))] (by rfl) rfl rfl (by (try simp only [List.map_toArray, List.map_cons, List.map_nil]); first | done | rfl | (simp only [List.length_drop, List.length_take]; rfl)) ?_
                                        with_reducible refine (cachepotref3_Digits.calls k5 (wrap64 ((rd_T39 l0_4 x4_5).f3)) t192 _ A44.out).mono ?_
                                        rintro e w55 ⟨rfl, hb⟩
                                        refine ⟨_, rfl, ?_⟩
                                        have n0_ := Aside0.mk (blk_below (g := gb183) (o := .cells #[.int .i64 a0_0, .int .i64 a0_1, .int .u32 a0_2, .int .i64 a0_3, .slice (some ad188) l0_4.length c0_4, .slice A0_5 l0_5.length c0_5, .slice A0_6 l0_6.length c0_6] 27 (0, 0)) (by (with_reducible repeat (first | refine blk_drewN ?_ _ | refine blk_drew ?_ | refine blk_alloc ?_ _)); exact BK183.out) hb)
                                        have n1_ := Aside0.mk (blk_below (g := gb189) (o := .cells #[.string ((rd_T39 l0_4 x4_5).f0), .bool true, .string ((rd_T39 l0_4 x4_5).f2), .int .u32 ((rd_T39 l0_4 x4_5).f3)] 39 (0, 0)) (by (with_reducible repeat (first | refine blk_drewN ?_ _ | refine blk_drew ?_ | refine blk_alloc ?_ _)); exact BK189.out) hb)
                                        have n2_ := Aside0.mk (below_step (by repeat (first | (with_reducible first | exact HB.out | apply below_alloc | apply pw_below_drewN | apply below_drew1 | refine below_set ?_ GE183.out | refine below_set ?_ GE189.out) | exact HB.out)) hb)
                                        clear BK183
                                        clear BK189
                                        clear HB
                                        have BK183 := n0_
                                        have BK189 := n1_
                                        have HB := n2_
                                        clear n0_ n1_ n2_
                                        (try clear hb)
                                        (try clear hb2)
                                        (try clear hk)
                                        (try clear hi)
                                        refine hK.out _ _ ⟨(blk_cell BK189.out 0).trans rfl, (blk_cell BK189.out 1).trans rfl, (blk_cell BK189.out 2).trans rfl, (blk_cell BK189.out 3).trans rfl⟩ (fun hHeld => ?_)
                                        clear hK K
                                        refine norm_ (a' := ?_) ?_ ?_
                                        rotate_left
                                        · show Act.put _ (some 71) _ = _
                                          simp only [Act.put, List.setIfInBounds_toArray, List.set_cons_zero, List.set_cons_succ, i64_w, i32_w]
                                          rfl
                                        refine pure_ (i := 15) (N := some 72) (v := ?_) (a' := ?_) #[true, true, true, true, true, true, true, true, true, true, true, true, true, true, true, true, false, false] rfl rfl (any_of HT_.out (by kernel_rfl)) (fun _ _ _ h => h) (Or.inl ⟨by rfl, ?_⟩) ?_ ?_
                                        rotate_left
                                        · intro w'
                                          go_simp
                                          with_reducible rfl
                                        rotate_left
                                        · simp only [Act.put, List.setIfInBounds_toArray, List.set_cons_zero, List.set_cons_succ, i64_w, i32_w]
                                          rfl
                                        refine pure_ (i := 16) (N := some 73) (v := ?_) (a' := ?_) #[true, true, true, true, true, true, true, true, true, true, true, true, true, true, true, true, true, false] rfl rfl (any_of HT_.out (by kernel_rfl)) (fun _ _ _ h => h) (Or.inl ⟨by rfl, ?_⟩) ?_ ?_
                                        rotate_left
                                        · intro w'
                                          go_simp
                                          with_reducible rfl
                                        rotate_left
                                        · simp only [Act.put, List.setIfInBounds_toArray, List.set_cons_zero, List.set_cons_succ, i64_w, i32_w]
                                          rfl
                                        refine pure_ (i := 17) (N := some 3) (v := ?_) (a' := ?_) #[true, true, true, true, true, true, true, true, true, true, true, true, true, true, true, true, true, true] rfl rfl (any_of HT_.out (by kernel_rfl)) (fun _ _ _ h => h) (Or.inl ⟨by rfl, ?_⟩) ?_ ?_
                                        rotate_left
                                        · intro w'
                                          go_simp
                                          with_reducible rfl
                                        rotate_left
                                        · simp only [Act.put, List.setIfInBounds_toArray, List.set_cons_zero, List.set_cons_succ, i64_w, i32_w]
                                          rfl
                                        refine done_ (done_of HT_.out (by kernel_rfl)) ?_
                                        try go_wp2
                                        go_roundg k5
                                        case measure => have := HJ1.out; have := HJ9.out; have := HJ17.out; have := HJ25.out; have := HK5.out; omega
                                        case rel => exact ⟨(x3_5 ++ ((((((⟨#[32]⟩ : ByteArray) ++ t190) ++ (⟨#[61]⟩ : ByteArray)) ++ t191) ++ (⟨#[64]⟩ : ByteArray)) ++ t192)), (wrap64 (x4_5 + 1)), (by first | rfl | (simp; done) | (simp [*]; done)), (by first | rfl | (simp; done) | (simp [*]; done)), H', ⟨by have := HJ1.out; have := HJ9.out; have := HJ17.out; have := HJ25.out; have := HK5.out; omega⟩, ⟨by (with_reducible repeat (first | refine blk_drewN ?_ _ | refine blk_drew ?_ | refine blk_alloc ?_ _)); exact BK183.out⟩, ⟨by repeat (first | (with_reducible first | exact HB.out | apply below_alloc | apply pw_below_drewN | apply below_drew1 | refine below_set ?_ GE183.out | refine below_set ?_ GE189.out) | exact HB.out)⟩⟩
                                      · rw [if_neg c46] at H
                                        exact absurd H (by simp)
                                    · rw [if_neg c45] at H
                                      exact absurd H (by simp)
                                  · rw [if_neg c43] at H
                                    exact absurd H (by simp)
                                · rw [if_neg c42] at H
                                  exact absurd H (by simp)
                              · rw [if_neg c40] at H
                                exact absurd H (by simp)
                            · rw [if_neg c39] at H
                              exact absurd H (by simp)
                          · replace c37 := Bool.eq_false_iff.mpr c37
                            subst c37
                            have H1 : ((cachepotref3_Quote.f ((rd_T39 l0_4 x4_5).f0)).bind fun t193 => (if 1 + t193.size ≤ 9223372036854775807 then (if ((⟨#[32]⟩ : ByteArray) ++ t193).size + 1 ≤ 9223372036854775807 then (if x3_5.size + (((⟨#[32]⟩ : ByteArray) ++ t193) ++ (⟨#[63]⟩ : ByteArray)).size ≤ 9223372036854775807 then (cachepotref3_Tell.l0 k5 (x3_5 ++ (((⟨#[32]⟩ : ByteArray) ++ t193) ++ (⟨#[63]⟩ : ByteArray))) (wrap64 (x4_5 + 1)) a0_0 a0_1 a0_2 a0_3 l0_4 l0_5 l0_6) else (none)) else (none)) else (none))) = some r := by rw [if_neg (show ¬ (false = true) by decide)] at H; exact H
                            clear H
                            have H := H1
                            clear H1
                            replace H := Option.bind_eq_some_iff.mp H
                            obtain ⟨t193, A560, H⟩ := H
                            replace H : (if 1 + t193.size ≤ 9223372036854775807 then (if ((⟨#[32]⟩ : ByteArray) ++ t193).size + 1 ≤ 9223372036854775807 then (if x3_5.size + (((⟨#[32]⟩ : ByteArray) ++ t193) ++ (⟨#[63]⟩ : ByteArray)).size ≤ 9223372036854775807 then (cachepotref3_Tell.l0 k5 (x3_5 ++ (((⟨#[32]⟩ : ByteArray) ++ t193) ++ (⟨#[63]⟩ : ByteArray))) (wrap64 (x4_5 + 1)) a0_0 a0_1 a0_2 a0_3 l0_4 l0_5 l0_6) else (none)) else (none)) else (none)) = some r := H
                            have A56 := Aside0.mk A560
                            clear A560
                            by_cases c57 : 1 + t193.size ≤ 9223372036854775807
                            · rw [if_pos c57] at H
                              have c57b0 := eq_true c57
                              have c57b1 : decide (1 + t193.size ≤ 9223372036854775807) = true := decide_eq_true c57
                              try have c57b2 : (9223372036854775807 < 1 + t193.size) = False := eq_false (Nat.not_lt.2 c57)
                              by_cases c58 : ((⟨#[32]⟩ : ByteArray) ++ t193).size + 1 ≤ 9223372036854775807
                              · rw [if_pos c58] at H
                                have c58b0 := eq_true c58
                                have c58b1 : decide (((⟨#[32]⟩ : ByteArray) ++ t193).size + 1 ≤ 9223372036854775807) = true := decide_eq_true c58
                                try have c58b2 : (9223372036854775807 < ((⟨#[32]⟩ : ByteArray) ++ t193).size + 1) = False := eq_false (Nat.not_lt.2 c58)
                                try have c58b9 : (9223372036854775807 < 1 + t193.size + 1) = False := by (have h_ := c58b2; rw [ByteArray.size_append] at h_; exact h_)
                                by_cases c59 : x3_5.size + (((⟨#[32]⟩ : ByteArray) ++ t193) ++ (⟨#[63]⟩ : ByteArray)).size ≤ 9223372036854775807
                                · rw [if_pos c59] at H
                                  have c59b0 := eq_true c59
                                  have c59b1 : decide (x3_5.size + (((⟨#[32]⟩ : ByteArray) ++ t193) ++ (⟨#[63]⟩ : ByteArray)).size ≤ 9223372036854775807) = true := decide_eq_true c59
                                  try have c59b2 : (9223372036854775807 < x3_5.size + (((⟨#[32]⟩ : ByteArray) ++ t193) ++ (⟨#[63]⟩ : ByteArray)).size) = False := eq_false (Nat.not_lt.2 c59)
                                  try have c59b9 : (9223372036854775807 < x3_5.size + (1 + t193.size + 1)) = False := by (have h_ := c59b2; rw [ByteArray.size_append] at h_; rw [ByteArray.size_append] at h_; exact h_)
                                  have H' := Aside0.mk H
                                  clear H
                                  have hcz60_0 : wr.cell? ⟨gb183, 0, none⟩ = some (.int .i64 a0_0) := (blk_cell BK183.out 0).trans rfl
                                  have hcz60_1 : wr.cell? ⟨gb183, 1, none⟩ = some (.int .i64 a0_1) := (blk_cell BK183.out 1).trans rfl
                                  have hcz60_2 : wr.cell? ⟨gb183, 2, none⟩ = some (.int .u32 a0_2) := (blk_cell BK183.out 2).trans rfl
                                  have hcz60_3 : wr.cell? ⟨gb183, 3, none⟩ = some (.int .i64 a0_3) := (blk_cell BK183.out 3).trans rfl
                                  have hcz60_4 : wr.cell? ⟨gb183, 4, none⟩ = some (.slice A0_4 l0_4.length c0_4) := (blk_cell BK183.out 4).trans rfl
                                  have hcz60_5 : wr.cell? ⟨gb183, 5, none⟩ = some (.slice A0_5 l0_5.length c0_5) := (blk_cell BK183.out 5).trans rfl
                                  have hcz60_6 : wr.cell? ⟨gb183, 6, none⟩ = some (.slice A0_6 l0_6.length c0_6) := (blk_cell BK183.out 6).trans rfl
                                  have hfz60_0 := blk_frozen BK183.out 0
                                  have hfz60_1 := blk_frozen BK183.out 1
                                  have hfz60_2 := blk_frozen BK183.out 2
                                  have hfz60_3 := blk_frozen BK183.out 3
                                  have hfz60_4 := blk_frozen BK183.out 4
                                  have hfz60_5 := blk_frozen BK183.out 5
                                  have hfz60_6 := blk_frozen BK183.out 6
                                  have p188 : 0 ≤ (x4_5 : Int) := of_decide_eq_true (by first | (with_reducible assumption) | assumption)
                                  have q188 : x4_5 < (l0_4.length : Int) := of_decide_eq_true (by first | (with_reducible assumption) | assumption)
                                  obtain ⟨ad188, e188, hx188_0, hx188_1, hx188_2, hx188_3⟩ := at_T39 HR0_4.out x4_5 p188 q188
                                  (try rw [← Nbq36.out] at hx188_1)
                                  (try rw [← Nbq36.out] at hw188_1)
                                  cases e188
                                  replace hx188_0 := (HB.out.cell (World.block_lt_of_cell? w _ hx188_0)).trans hx188_0
                                  replace hx188_1 := (HB.out.cell (World.block_lt_of_cell? w _ hx188_1)).trans hx188_1
                                  replace hx188_2 := (HB.out.cell (World.block_lt_of_cell? w _ hx188_2)).trans hx188_2
                                  replace hx188_3 := (HB.out.cell (World.block_lt_of_cell? w _ hx188_3)).trans hx188_3
                                  replace p188 := eq_true p188
                                  replace q188 := eq_true q188
                                  go_wp2_with (first | ((with_reducible refine gate_dst (N := 5) rfl ?_); refine box_event ?hg (N := 5) ?hd (cs := #[.string (⟨#[]⟩ : ByteArray), .bool false, .string (⟨#[]⟩ : ByteArray), .int .u32 0]) (t := 39) ?hr ?_; (case hd => rfl); (case hg => rfl); (case hr => first | (go_simp; done) | (go_simp; rfl)); intro gb189 hg w61 hbox hb; have n0_ := Aside0.mk (blk_below (g := gb183) (o := .cells #[.int .i64 a0_0, .int .i64 a0_1, .int .u32 a0_2, .int .i64 a0_3, .slice (some ad188) l0_4.length c0_4, .slice A0_5 l0_5.length c0_5, .slice A0_6 l0_6.length c0_6] 27 (0, 0)) (by (with_reducible repeat (first | refine blk_drewN ?_ _ | refine blk_drew ?_ | refine blk_alloc ?_ _)); exact BK183.out) hb); have n1_ := Aside0.mk (below_step (by repeat (first | (with_reducible first | exact HB.out | apply below_alloc | apply pw_below_drewN | apply below_drew1 | refine below_set ?_ GE183.out) | exact HB.out)) hb); have n2_ := Aside0.mk (hbox); have n3_ := Aside0.mk ((by rw [hg]; exact (below_size (by repeat (first | (with_reducible first | exact HB.out | apply below_alloc | apply pw_below_drewN | apply below_drew1 | refine below_set ?_ GE183.out) | exact HB.out))) : w.heap.size ≤ gb189)); have n4_ := Aside0.mk ((by rw [hg]; exact (below_size (by repeat (first | (with_reducible first | exact HB.out | apply below_alloc | apply pw_below_drewN | apply below_drew1 | refine below_set ?_ GE183.out) | exact HB.out))) : w.heap.size ≤ gb189)); have n5_ := Aside0.mk ((by rw [hg]; exact Nat.ne_of_lt (blk_lt (g := gb183) (o := .cells #[.int .i64 a0_0, .int .i64 a0_1, .int .u32 a0_2, .int .i64 a0_3, .slice (some ad188) l0_4.length c0_4, .slice A0_5 l0_5.length c0_5, .slice A0_6 l0_6.length c0_6] 27 (0, 0)) (by (with_reducible repeat (first | refine blk_drewN ?_ _ | refine blk_drew ?_ | refine blk_alloc ?_ _)); exact BK183.out)) : gb183 ≠ gb189)); have n6_ := Aside0.mk ((by rw [hg]; exact Nat.ne_of_gt (blk_lt (g := gb183) (o := .cells #[.int .i64 a0_0, .int .i64 a0_1, .int .u32 a0_2, .int .i64 a0_3, .slice (some ad188) l0_4.length c0_4, .slice A0_5 l0_5.length c0_5, .slice A0_6 l0_6.length c0_6] 27 (0, 0)) (by (with_reducible repeat (first | refine blk_drewN ?_ _ | refine blk_drew ?_ | refine blk_alloc ?_ _)); exact BK183.out)) : gb189 ≠ gb183)); clear BK183; clear HB; have BK183 := n0_; have HB := n1_; have BK189 := n2_; have GW189 := n3_; have GE189 := n4_; have NB183_189 := n5_; have NB189_183 := n6_; clear n0_ n1_ n2_ n3_ n4_ n5_ n6_; clear hb hbox hg; have hnb62 := NB189_183.out; have hnc62 := NB183_189.out; have hcz63_0 : w61.cell? ⟨gb189, 0, none⟩ = some (.string (⟨#[]⟩ : ByteArray)) := (blk_cell BK189.out 0).trans rfl; have hcz63_1 : w61.cell? ⟨gb189, 1, none⟩ = some (.bool false) := (blk_cell BK189.out 1).trans rfl; have hcz63_2 : w61.cell? ⟨gb189, 2, none⟩ = some (.string (⟨#[]⟩ : ByteArray)) := (blk_cell BK189.out 2).trans rfl; have hcz63_3 : w61.cell? ⟨gb189, 3, none⟩ = some (.int .u32 0) := (blk_cell BK189.out 3).trans rfl; have hfz63_0 := blk_frozen BK189.out 0; have hfz63_1 := blk_frozen BK189.out 1; have hfz63_2 := blk_frozen BK189.out 2; have hfz63_3 := blk_frozen BK189.out 3) | ((with_reducible refine gate_callee (f := 14) rfl ?_); refine goesL_ (some 77) rfl rfl Tryz.func14 (by kernel_rfl) rfl #[.string ((rd_T39 l0_4 x4_5).f0)] rfl (by (try simp only [List.map_toArray, List.map_cons, List.map_nil]); first | done | rfl | (simp only [List.length_drop, List.length_take]; rfl)) ?_; (with_reducible refine (cachepotref3_Quote.calls ((rd_T39 l0_4 x4_5).f0) t193 _ A56.out).mono ?_); rintro e w64 ⟨rfl, hb⟩; refine ⟨_, rfl, ?_⟩; have n0_ := Aside0.mk (blk_below (g := gb183) (o := .cells #[.int .i64 a0_0, .int .i64 a0_1, .int .u32 a0_2, .int .i64 a0_3, .slice (some ad188) l0_4.length c0_4, .slice A0_5 l0_5.length c0_5, .slice A0_6 l0_6.length c0_6] 27 (0, 0)) (by (with_reducible repeat (first | refine blk_drewN ?_ _ | refine blk_drew ?_ | refine blk_alloc ?_ _)); refine blk_far ?_ NB183_189.out _; (with_reducible repeat (first | refine blk_drewN ?_ _ | refine blk_drew ?_ | refine blk_alloc ?_ _)); refine blk_far ?_ NB183_189.out _; (with_reducible repeat (first | refine blk_drewN ?_ _ | refine blk_drew ?_ | refine blk_alloc ?_ _)); refine blk_far ?_ NB183_189.out _; (with_reducible repeat (first | refine blk_drewN ?_ _ | refine blk_drew ?_ | refine blk_alloc ?_ _)); refine blk_far ?_ NB183_189.out _; (with_reducible repeat (first | refine blk_drewN ?_ _ | refine blk_drew ?_ | refine blk_alloc ?_ _)); exact BK183.out) hb); have n1_ := Aside0.mk (blk_below (g := gb189) (o := .cells #[.string ((rd_T39 l0_4 x4_5).f0), .bool false, .string ((rd_T39 l0_4 x4_5).f2), .int .u32 ((rd_T39 l0_4 x4_5).f3)] 39 (0, 0)) (by (with_reducible repeat (first | refine blk_drewN ?_ _ | refine blk_drew ?_ | refine blk_alloc ?_ _)); refine blk_put (cs := #[.string ((rd_T39 l0_4 x4_5).f0), .bool false, .string ((rd_T39 l0_4 x4_5).f2), .int .u32 0]) ?_ 3 _ rfl; (with_reducible repeat (first | refine blk_drewN ?_ _ | refine blk_drew ?_ | refine blk_alloc ?_ _)); refine blk_put (cs := #[.string ((rd_T39 l0_4 x4_5).f0), .bool false, .string (⟨#[]⟩ : ByteArray), .int .u32 0]) ?_ 2 _ rfl; (with_reducible repeat (first | refine blk_drewN ?_ _ | refine blk_drew ?_ | refine blk_alloc ?_ _)); refine blk_put (cs := #[.string ((rd_T39 l0_4 x4_5).f0), .bool false, .string (⟨#[]⟩ : ByteArray), .int .u32 0]) ?_ 1 _ rfl; (with_reducible repeat (first | refine blk_drewN ?_ _ | refine blk_drew ?_ | refine blk_alloc ?_ _)); refine blk_put (cs := #[.string (⟨#[]⟩ : ByteArray), .bool false, .string (⟨#[]⟩ : ByteArray), .int .u32 0]) ?_ 0 _ rfl; (with_reducible repeat (first | refine blk_drewN ?_ _ | refine blk_drew ?_ | refine blk_alloc ?_ _)); exact BK189.out) hb); have n2_ := Aside0.mk (below_step (by repeat (first | (with_reducible first | exact HB.out | apply below_alloc | apply pw_below_drewN | apply below_drew1 | refine below_set ?_ GE183.out | refine below_set ?_ GE189.out) | exact HB.out)) hb); clear BK183; clear BK189; clear HB; have BK183 := n0_; have BK189 := n1_; have HB := n2_; clear n0_ n1_ n2_; (try clear hb); (try clear hb2); (try clear hk); (try clear hi)))
                                  go_roundg k5
                                  case measure => have := HJ1.out; have := HJ9.out; have := HJ17.out; have := HJ25.out; have := HK5.out; omega
                                  case rel => exact ⟨(x3_5 ++ (((⟨#[32]⟩ : ByteArray) ++ t193) ++ (⟨#[63]⟩ : ByteArray))), (wrap64 (x4_5 + 1)), (by first | rfl | (simp; done) | (simp [*]; done)), (by first | rfl | (simp; done) | (simp [*]; done)), H', ⟨by have := HJ1.out; have := HJ9.out; have := HJ17.out; have := HJ25.out; have := HK5.out; omega⟩, ⟨by (with_reducible repeat (first | refine blk_drewN ?_ _ | refine blk_drew ?_ | refine blk_alloc ?_ _)); exact BK183.out⟩, ⟨by repeat (first | (with_reducible first | exact HB.out | apply below_alloc | apply pw_below_drewN | apply below_drew1 | refine below_set ?_ GE183.out | refine below_set ?_ GE189.out) | exact HB.out)⟩⟩
                                · rw [if_neg c59] at H
                                  exact absurd H (by simp)
                              · rw [if_neg c58] at H
                                exact absurd H (by simp)
                            · rw [if_neg c57] at H
                              exact absurd H (by simp)
                        · rw [if_neg c35] at H
                          exact absurd H (by simp)
                      · rw [if_neg c34] at H
                        have c34b0 : decide (x4_5 < (l0_4.length : Int)) = false := decide_eq_false c34
                        clear c34
                        have H' := Aside0.mk H
                        clear H
                        have hcz65_0 : wr.cell? ⟨gb183, 0, none⟩ = some (.int .i64 a0_0) := (blk_cell BK183.out 0).trans rfl
                        have hcz65_1 : wr.cell? ⟨gb183, 1, none⟩ = some (.int .i64 a0_1) := (blk_cell BK183.out 1).trans rfl
                        have hcz65_2 : wr.cell? ⟨gb183, 2, none⟩ = some (.int .u32 a0_2) := (blk_cell BK183.out 2).trans rfl
                        have hcz65_3 : wr.cell? ⟨gb183, 3, none⟩ = some (.int .i64 a0_3) := (blk_cell BK183.out 3).trans rfl
                        have hcz65_4 : wr.cell? ⟨gb183, 4, none⟩ = some (.slice A0_4 l0_4.length c0_4) := (blk_cell BK183.out 4).trans rfl
                        have hcz65_5 : wr.cell? ⟨gb183, 5, none⟩ = some (.slice A0_5 l0_5.length c0_5) := (blk_cell BK183.out 5).trans rfl
                        have hcz65_6 : wr.cell? ⟨gb183, 6, none⟩ = some (.slice A0_6 l0_6.length c0_6) := (blk_cell BK183.out 6).trans rfl
                        have hfz65_0 := blk_frozen BK183.out 0
                        have hfz65_1 := blk_frozen BK183.out 1
                        have hfz65_2 := blk_frozen BK183.out 2
                        have hfz65_3 := blk_frozen BK183.out 3
                        have hfz65_4 := blk_frozen BK183.out 4
                        have hfz65_5 := blk_frozen BK183.out 5
                        have hfz65_6 := blk_frozen BK183.out 6
                        go_wp2
                        go_loopg [3, 6] k5 (fun kq v3 v6 w' => ∃ (x3_6 : ByteArray) (x6_6 : Int), v3 = .string x3_6 ∧ v6 = .int .i64 x6_6 ∧ Aside0 (cachepotref3_Tell.l1 kq x3_6 x6_6 a0_0 a0_1 a0_2 a0_3 l0_4 l0_5 l0_6 = some r) ∧ Aside0 (kq ≤ k5) ∧ Aside0 (w'.heap[gb183]? = some (.cells #[.int .i64 a0_0, .int .i64 a0_1, .int .u32 a0_2, .int .i64 a0_3, (.slice A0_4 l0_4.length c0_4), (.slice A0_5 l0_5.length c0_5), (.slice A0_6 l0_6.length c0_6)] 27 (0, 0))) ∧ Aside0 (Below w.heap.size w w'))
                        case atStart => exact ⟨(x3_5), (0), (by first | rfl | (simp; done) | (simp [*]; done)), (by first | rfl | (simp; done) | (simp [*]; done)), H', ⟨Nat.le_refl _⟩, ⟨by (with_reducible repeat (first | refine blk_drewN ?_ _ | refine blk_drew ?_ | refine blk_alloc ?_ _)); exact BK183.out⟩, ⟨by repeat (first | (with_reducible first | exact HB.out | apply below_alloc | apply pw_below_drewN | apply below_drew1 | refine below_set ?_ GE183.out) | exact HB.out)⟩⟩
                        case round =>
                          clear H'
                          try clear c1
                          try clear p1
                          try clear q1
                          try clear hx1
                          try clear c2
                          try clear p2
                          try clear c3
                          try clear q3
                          try clear c4
                          try clear c5
                          try clear c5b0
                          try clear c5b1
                          try clear c6
                          try clear p6
                          try clear c7
                          try clear c7b0
                          try clear c7b1
                          try clear c7b2
                          try clear c12
                          try clear c12b0
                          try clear c12b1
                          try clear c13
                          try clear c14
                          try clear c14b0
                          try clear c14b1
                          try clear c14b2
                          try clear c15
                          try clear c15b0
                          try clear c15b1
                          try clear c15b2
                          try clear p18
                          try clear q18
                          try clear hx18
                          try clear c20
                          try clear c20b0
                          try clear c20b1
                          try clear c22
                          try clear c22b0
                          try clear c22b1
                          try clear c22b2
                          try clear c23
                          try clear c23b0
                          try clear c23b1
                          try clear c23b2
                          try clear c28
                          try clear c28b0
                          try clear c28b1
                          try clear c30
                          try clear c30b0
                          try clear c30b1
                          try clear c30b2
                          try clear c31
                          try clear c31b0
                          try clear c31b1
                          try clear c31b2
                          try clear c34
                          try clear c34b0
                          try clear c35
                          try clear c35b0
                          try clear q36
                          try clear c37
                          try clear c39
                          try clear c39b0
                          try clear c39b1
                          try clear c39b2
                          try clear c40
                          try clear c40b0
                          try clear c40b1
                          try clear c40b2
                          try clear c42
                          try clear c42b0
                          try clear c42b1
                          try clear c42b2
                          try clear c43
                          try clear c43b0
                          try clear c43b1
                          try clear c43b2
                          try clear c45
                          try clear c45b0
                          try clear c45b1
                          try clear c45b2
                          try clear c46
                          try clear c46b0
                          try clear c46b1
                          try clear c46b2
                          try clear c49
                          try clear c57
                          try clear c57b0
                          try clear c57b1
                          try clear c57b2
                          try clear c58
                          try clear c58b0
                          try clear c58b1
                          try clear c58b2
                          try clear c59
                          try clear c59b0
                          try clear c59b1
                          try clear c59b2
                          try clear c62
                          try clear p64
                          try clear hcz11_0
                          try clear hcz11_1
                          try clear hcz11_2
                          try clear hcz11_3
                          try clear hcz11_4
                          try clear hcz11_5
                          try clear hcz11_6
                          try clear hcz16_0
                          try clear hcz16_1
                          try clear hcz16_2
                          try clear hcz16_3
                          try clear hcz16_4
                          try clear hcz16_5
                          try clear hcz16_6
                          try clear hcz19_0
                          try clear hcz19_1
                          try clear hcz19_2
                          try clear hcz19_3
                          try clear hcz19_4
                          try clear hcz19_5
                          try clear hcz19_6
                          try clear hcz24_0
                          try clear hcz24_1
                          try clear hcz24_2
                          try clear hcz24_3
                          try clear hcz24_4
                          try clear hcz24_5
                          try clear hcz24_6
                          try clear hcz27_0
                          try clear hcz27_1
                          try clear hcz27_2
                          try clear hcz27_3
                          try clear hcz27_4
                          try clear hcz27_5
                          try clear hcz27_6
                          try clear hcz32_0
                          try clear hcz32_1
                          try clear hcz32_2
                          try clear hcz32_3
                          try clear hcz32_4
                          try clear hcz32_5
                          try clear hcz32_6
                          try clear hcz47_0
                          try clear hcz47_1
                          try clear hcz47_2
                          try clear hcz47_3
                          try clear hcz47_4
                          try clear hcz47_5
                          try clear hcz47_6
                          try clear hcz4_0
                          try clear hcz4_1
                          try clear hcz4_2
                          try clear hcz4_3
                          try clear hcz4_4
                          try clear hcz4_5
                          try clear hcz4_6
                          try clear hcz50_0
                          try clear hcz50_1
                          try clear hcz50_2
                          try clear hcz50_3
                          try clear hcz60_0
                          try clear hcz60_1
                          try clear hcz60_2
                          try clear hcz60_3
                          try clear hcz60_4
                          try clear hcz60_5
                          try clear hcz60_6
                          try clear hcz63_0
                          try clear hcz63_1
                          try clear hcz63_2
                          try clear hcz63_3
                          try clear hcz65_0
                          try clear hcz65_1
                          try clear hcz65_2
                          try clear hcz65_3
                          try clear hcz65_4
                          try clear hcz65_5
                          try clear hcz65_6
                          try clear hcz8_0
                          try clear hcz8_1
                          try clear hcz8_2
                          try clear hcz8_3
                          try clear hcz8_4
                          try clear hcz8_5
                          try clear hcz8_6
                          try clear hfz11_0
                          try clear hfz11_1
                          try clear hfz11_2
                          try clear hfz11_3
                          try clear hfz11_4
                          try clear hfz11_5
                          try clear hfz11_6
                          try clear hfz16_0
                          try clear hfz16_1
                          try clear hfz16_2
                          try clear hfz16_3
                          try clear hfz16_4
                          try clear hfz16_5
                          try clear hfz16_6
                          try clear hfz19_0
                          try clear hfz19_1
                          try clear hfz19_2
                          try clear hfz19_3
                          try clear hfz19_4
                          try clear hfz19_5
                          try clear hfz19_6
                          try clear hfz24_0
                          try clear hfz24_1
                          try clear hfz24_2
                          try clear hfz24_3
                          try clear hfz24_4
                          try clear hfz24_5
                          try clear hfz24_6
                          try clear hfz27_0
                          try clear hfz27_1
                          try clear hfz27_2
                          try clear hfz27_3
                          try clear hfz27_4
                          try clear hfz27_5
                          try clear hfz27_6
                          try clear hfz32_0
                          try clear hfz32_1
                          try clear hfz32_2
                          try clear hfz32_3
                          try clear hfz32_4
                          try clear hfz32_5
                          try clear hfz32_6
                          try clear hfz47_0
                          try clear hfz47_1
                          try clear hfz47_2
                          try clear hfz47_3
                          try clear hfz47_4
                          try clear hfz47_5
                          try clear hfz47_6
                          try clear hfz4_0
                          try clear hfz4_1
                          try clear hfz4_2
                          try clear hfz4_3
                          try clear hfz4_4
                          try clear hfz4_5
                          try clear hfz4_6
                          try clear hfz50_0
                          try clear hfz50_1
                          try clear hfz50_2
                          try clear hfz50_3
                          try clear hfz60_0
                          try clear hfz60_1
                          try clear hfz60_2
                          try clear hfz60_3
                          try clear hfz60_4
                          try clear hfz60_5
                          try clear hfz60_6
                          try clear hfz63_0
                          try clear hfz63_1
                          try clear hfz63_2
                          try clear hfz63_3
                          try clear hfz65_0
                          try clear hfz65_1
                          try clear hfz65_2
                          try clear hfz65_3
                          try clear hfz65_4
                          try clear hfz65_5
                          try clear hfz65_6
                          try clear hfz8_0
                          try clear hfz8_1
                          try clear hfz8_2
                          try clear hfz8_3
                          try clear hfz8_4
                          try clear hfz8_5
                          try clear hfz8_6
                          try clear hx188_0
                          try clear hx188_1
                          try clear hx188_2
                          try clear hx188_3
                          try clear p188
                          try clear p2
                          try clear p6
                          try clear q188
                          obtain ⟨x3_6, x6_6, rfl, rfl, HA, HK6, BK183, HB⟩ := hrel
                          cases gk with
                          | zero => exact absurd HA.out (by simp [cachepotref3_Tell.l1])
                          | succ k6 =>
                            have H := HA.out
                            clear HA
                            simp only [cachepotref3_Tell.l1] at H
                            by_cases c66 : x6_6 < (l0_5.length : Int)
                            · rw [if_pos c66] at H
                              have c66b0 : decide (x6_6 < (l0_5.length : Int)) = true := decide_eq_true c66
                              clear c66
                              by_cases c67 : 0 ≤ x6_6
                              · rw [if_pos c67] at H
                                have c67b0 : decide (0 ≤ x6_6) = true := decide_eq_true c67
                                clear c67
                                replace H := Option.bind_eq_some_iff.mp H
                                obtain ⟨t195, A680, H⟩ := H
                                replace H : (if 1 + t195.size ≤ 9223372036854775807 then (if x3_6.size + ((⟨#[32]⟩ : ByteArray) ++ t195).size ≤ 9223372036854775807 then (cachepotref3_Tell.l1 k6 (x3_6 ++ ((⟨#[32]⟩ : ByteArray) ++ t195)) (wrap64 (x6_6 + 1)) a0_0 a0_1 a0_2 a0_3 l0_4 l0_5 l0_6) else (none)) else (none)) = some r := H
                                have A68 := Aside0.mk A680
                                clear A680
                                by_cases c69 : 1 + t195.size ≤ 9223372036854775807
                                · rw [if_pos c69] at H
                                  have c69b0 := eq_true c69
                                  have c69b1 : decide (1 + t195.size ≤ 9223372036854775807) = true := decide_eq_true c69
                                  try have c69b2 : (9223372036854775807 < 1 + t195.size) = False := eq_false (Nat.not_lt.2 c69)
                                  by_cases c70 : x3_6.size + ((⟨#[32]⟩ : ByteArray) ++ t195).size ≤ 9223372036854775807
                                  · rw [if_pos c70] at H
                                    have c70b0 := eq_true c70
                                    have c70b1 : decide (x3_6.size + ((⟨#[32]⟩ : ByteArray) ++ t195).size ≤ 9223372036854775807) = true := decide_eq_true c70
                                    try have c70b2 : (9223372036854775807 < x3_6.size + ((⟨#[32]⟩ : ByteArray) ++ t195).size) = False := eq_false (Nat.not_lt.2 c70)
                                    try have c70b9 : (9223372036854775807 < x3_6.size + (1 + t195.size)) = False := by (have h_ := c70b2; rw [ByteArray.size_append] at h_; exact h_)
                                    have H' := Aside0.mk H
                                    clear H
                                    have hcz71_0 : wr.cell? ⟨gb183, 0, none⟩ = some (.int .i64 a0_0) := (blk_cell BK183.out 0).trans rfl
                                    have hcz71_1 : wr.cell? ⟨gb183, 1, none⟩ = some (.int .i64 a0_1) := (blk_cell BK183.out 1).trans rfl
                                    have hcz71_2 : wr.cell? ⟨gb183, 2, none⟩ = some (.int .u32 a0_2) := (blk_cell BK183.out 2).trans rfl
                                    have hcz71_3 : wr.cell? ⟨gb183, 3, none⟩ = some (.int .i64 a0_3) := (blk_cell BK183.out 3).trans rfl
                                    have hcz71_4 : wr.cell? ⟨gb183, 4, none⟩ = some (.slice A0_4 l0_4.length c0_4) := (blk_cell BK183.out 4).trans rfl
                                    have hcz71_5 : wr.cell? ⟨gb183, 5, none⟩ = some (.slice A0_5 l0_5.length c0_5) := (blk_cell BK183.out 5).trans rfl
                                    have hcz71_6 : wr.cell? ⟨gb183, 6, none⟩ = some (.slice A0_6 l0_6.length c0_6) := (blk_cell BK183.out 6).trans rfl
                                    have hfz71_0 := blk_frozen BK183.out 0
                                    have hfz71_1 := blk_frozen BK183.out 1
                                    have hfz71_2 := blk_frozen BK183.out 2
                                    have hfz71_3 := blk_frozen BK183.out 3
                                    have hfz71_4 := blk_frozen BK183.out 4
                                    have hfz71_5 := blk_frozen BK183.out 5
                                    have hfz71_6 := blk_frozen BK183.out 6
                                    have p194 : 0 ≤ (x6_6 : Int) := of_decide_eq_true (by first | (with_reducible assumption) | assumption)
                                    have q194 : x6_6 < (l0_5.length : Int) := of_decide_eq_true (by first | (with_reducible assumption) | assumption)
                                    obtain ⟨ad194, e194, hx194_0⟩ := Kd.at_string HR0_5.out x6_6 p194 q194
                                    cases e194
                                    replace hx194_0 := (HB.out.cell (World.block_lt_of_cell? w _ hx194_0)).trans hx194_0
                                    replace p194 := eq_true p194
                                    replace q194 := eq_true q194
                                    go_wp2_with (first | ((with_reducible refine gate_callee (f := 14) rfl ?_); refine goesL_ (some 94) rfl rfl Tryz.func14 (by kernel_rfl) rfl #[.string (rdOf ByteArray.empty l0_5 x6_6)] rfl (by (try simp only [List.map_toArray, List.map_cons, List.map_nil]); first | done | rfl | (simp only [List.length_drop, List.length_take]; rfl)) ?_; (with_reducible refine (cachepotref3_Quote.calls (rdOf ByteArray.empty l0_5 x6_6) t195 _ A68.out).mono ?_); rintro e w72 ⟨rfl, hb⟩; refine ⟨_, rfl, ?_⟩; have n0_ := Aside0.mk (blk_below (g := gb183) (o := .cells #[.int .i64 a0_0, .int .i64 a0_1, .int .u32 a0_2, .int .i64 a0_3, .slice A0_4 l0_4.length c0_4, .slice (some ad194) l0_5.length c0_5, .slice A0_6 l0_6.length c0_6] 27 (0, 0)) (by (with_reducible repeat (first | refine blk_drewN ?_ _ | refine blk_drew ?_ | refine blk_alloc ?_ _)); exact BK183.out) hb); have n1_ := Aside0.mk (below_step (by repeat (first | (with_reducible first | exact HB.out | apply below_alloc | apply pw_below_drewN | apply below_drew1 | refine below_set ?_ GE183.out) | exact HB.out)) hb); clear BK183; clear HB; have BK183 := n0_; have HB := n1_; clear n0_ n1_; (try clear hb); (try clear hb2); (try clear hk); (try clear hi)))
                                    go_roundg k6
                                    case measure => have := HJ1.out; have := HJ9.out; have := HJ17.out; have := HJ25.out; have := HK5.out; have := HK6.out; omega
                                    case rel => exact ⟨(x3_6 ++ ((⟨#[32]⟩ : ByteArray) ++ t195)), (wrap64 (x6_6 + 1)), (by first | rfl | (simp; done) | (simp [*]; done)), (by first | rfl | (simp; done) | (simp [*]; done)), H', ⟨by have := HJ1.out; have := HJ9.out; have := HJ17.out; have := HJ25.out; have := HK5.out; have := HK6.out; omega⟩, ⟨by (with_reducible repeat (first | refine blk_drewN ?_ _ | refine blk_drew ?_ | refine blk_alloc ?_ _)); exact BK183.out⟩, ⟨by repeat (first | (with_reducible first | exact HB.out | apply below_alloc | apply pw_below_drewN | apply below_drew1 | refine below_set ?_ GE183.out) | exact HB.out)⟩⟩
                                  · rw [if_neg c70] at H
                                    exact absurd H (by simp)
                                · rw [if_neg c69] at H
                                  exact absurd H (by simp)
                              · rw [if_neg c67] at H
                                exact absurd H (by simp)
                            · rw [if_neg c66] at H
                              have c66b0 : decide (x6_6 < (l0_5.length : Int)) = false := decide_eq_false c66
                              clear c66
                              have HC73 := Aside0.mk H
                              clear H
                              have hcz74_0 : wr.cell? ⟨gb183, 0, none⟩ = some (.int .i64 a0_0) := (blk_cell BK183.out 0).trans rfl
                              have hcz74_1 : wr.cell? ⟨gb183, 1, none⟩ = some (.int .i64 a0_1) := (blk_cell BK183.out 1).trans rfl
                              have hcz74_2 : wr.cell? ⟨gb183, 2, none⟩ = some (.int .u32 a0_2) := (blk_cell BK183.out 2).trans rfl
                              have hcz74_3 : wr.cell? ⟨gb183, 3, none⟩ = some (.int .i64 a0_3) := (blk_cell BK183.out 3).trans rfl
                              have hcz74_4 : wr.cell? ⟨gb183, 4, none⟩ = some (.slice A0_4 l0_4.length c0_4) := (blk_cell BK183.out 4).trans rfl
                              have hcz74_5 : wr.cell? ⟨gb183, 5, none⟩ = some (.slice A0_5 l0_5.length c0_5) := (blk_cell BK183.out 5).trans rfl
                              have hcz74_6 : wr.cell? ⟨gb183, 6, none⟩ = some (.slice A0_6 l0_6.length c0_6) := (blk_cell BK183.out 6).trans rfl
                              have hfz74_0 := blk_frozen BK183.out 0
                              have hfz74_1 := blk_frozen BK183.out 1
                              have hfz74_2 := blk_frozen BK183.out 2
                              have hfz74_3 := blk_frozen BK183.out 3
                              have hfz74_4 := blk_frozen BK183.out 4
                              have hfz74_5 := blk_frozen BK183.out 5
                              have hfz74_6 := blk_frozen BK183.out 6
                              go_upto_if 100 with (fail)
                              go_cut [3] (fun v3 wc => ∃ (kq : Nat) (x3_72 : ByteArray), v3 = .string x3_72 ∧ Aside0 (cachepotref3_Tell.j6 kq x3_72 a0_0 a0_1 a0_2 a0_3 l0_4 l0_5 l0_6 = some r) ∧ Aside0 (kq ≤ k6) ∧ Aside0 (wc.heap[gb183]? = some (.cells #[.int .i64 a0_0, .int .i64 a0_1, .int .u32 a0_2, .int .i64 a0_3, (.slice A0_4 l0_4.length c0_4), (.slice A0_5 l0_5.length c0_5), (.slice A0_6 l0_6.length c0_6)] 27 (0, 0))) ∧ Aside0 (Below w.heap.size w wc))
                              case first =>
                                have H := HC73.out
                                clear HC73
                                by_cases c75 : (l0_6.length : Int) > 0
                                · rw [if_pos c75] at H
                                  have c75b0 : decide (0 < (l0_6.length : Int)) = true := decide_eq_true c75
                                  have c75b1 : decide (0 < l0_6.length) = true := decide_eq_true (by omega)
                                  have c75b8 : (0 < l0_6.length) = True := eq_true (by omega)
                                  clear c75
                                  (first | rw [c75b0] | rw [c75b1] | simp only [c75b1] | (simp only [i64_w, i32_w]; rw [c75b0]) | skip)
                                  by_cases c76 : x3_6.size + 7 ≤ 9223372036854775807
                                  · rw [if_pos c76] at H
                                    have c76b0 := eq_true c76
                                    have c76b1 : decide (x3_6.size + 7 ≤ 9223372036854775807) = true := decide_eq_true c76
                                    try have c76b2 : (9223372036854775807 < x3_6.size + 7) = False := eq_false (Nat.not_lt.2 c76)
                                    have H' := Aside0.mk H
                                    clear H
                                    go_wp2
                                    go_meet
                                    case rel => exact ⟨_, (x3_6 ++ (⟨#[32, 102, 111, 114, 103, 111, 116]⟩ : ByteArray)), (by first | rfl | (simp; done) | (simp [*]; done)), H', ⟨by have := HJ1.out; have := HJ9.out; have := HJ17.out; have := HJ25.out; have := HK5.out; have := HK6.out; first | omega | exact Nat.le_refl _⟩, ⟨by (with_reducible repeat (first | refine blk_drewN ?_ _ | refine blk_drew ?_ | refine blk_alloc ?_ _)); exact BK183.out⟩, ⟨by repeat (first | (with_reducible first | exact HB.out | apply below_alloc | apply pw_below_drewN | apply below_drew1 | refine below_set ?_ GE183.out) | exact HB.out)⟩⟩
                                  · rw [if_neg c76] at H
                                    exact absurd H (by simp)
                                · rw [if_neg c75] at H
                                  have c75b0 : decide (0 < (l0_6.length : Int)) = false := decide_eq_false c75
                                  have c75b1 : decide (0 < l0_6.length) = false := decide_eq_false (by omega)
                                  have c75b8 : (0 < l0_6.length) = False := eq_false (by omega)
                                  clear c75
                                  (first | rw [c75b0] | rw [c75b1] | simp only [c75b1] | (simp only [i64_w, i32_w]; rw [c75b0]) | skip)
                                  have H' := Aside0.mk H
                                  clear H
                                  go_wp2
                                  go_meet
                                  case rel => exact ⟨_, (x3_6), (by first | rfl | (simp; done) | (simp [*]; done)), H', ⟨by have := HJ1.out; have := HJ9.out; have := HJ17.out; have := HJ25.out; have := HK5.out; have := HK6.out; first | omega | exact Nat.le_refl _⟩, ⟨by (with_reducible repeat (first | refine blk_drewN ?_ _ | refine blk_drew ?_ | refine blk_alloc ?_ _)); exact BK183.out⟩, ⟨by repeat (first | (with_reducible first | exact HB.out | apply below_alloc | apply pw_below_drewN | apply below_drew1 | refine below_set ?_ GE183.out) | exact HB.out)⟩⟩
                              case rest =>
                                clear HC73
                                try clear c1
                                try clear p1
                                try clear q1
                                try clear hx1
                                try clear c2
                                try clear p2
                                try clear c3
                                try clear q3
                                try clear c4
                                try clear c5
                                try clear c5b0
                                try clear c5b1
                                try clear c6
                                try clear p6
                                try clear c7
                                try clear c7b0
                                try clear c7b1
                                try clear c7b2
                                try clear c12
                                try clear c12b0
                                try clear c12b1
                                try clear c13
                                try clear c14
                                try clear c14b0
                                try clear c14b1
                                try clear c14b2
                                try clear c15
                                try clear c15b0
                                try clear c15b1
                                try clear c15b2
                                try clear p18
                                try clear q18
                                try clear hx18
                                try clear p19
                                try clear q19
                                try clear hx19
                                try clear c20
                                try clear c20b0
                                try clear c20b1
                                try clear c22
                                try clear c22b0
                                try clear c22b1
                                try clear c22b2
                                try clear c23
                                try clear c23b0
                                try clear c23b1
                                try clear c23b2
                                try clear c28
                                try clear c28b0
                                try clear c28b1
                                try clear c30
                                try clear c30b0
                                try clear c30b1
                                try clear c30b2
                                try clear c31
                                try clear c31b0
                                try clear c31b1
                                try clear c31b2
                                try clear c34
                                try clear c34b0
                                try clear c35
                                try clear c35b0
                                try clear q36
                                try clear c37
                                try clear c39
                                try clear c39b0
                                try clear c39b1
                                try clear c39b2
                                try clear c40
                                try clear c40b0
                                try clear c40b1
                                try clear c40b2
                                try clear c42
                                try clear c42b0
                                try clear c42b1
                                try clear c42b2
                                try clear c43
                                try clear c43b0
                                try clear c43b1
                                try clear c43b2
                                try clear c45
                                try clear c45b0
                                try clear c45b1
                                try clear c45b2
                                try clear c46
                                try clear c46b0
                                try clear c46b1
                                try clear c46b2
                                try clear c49
                                try clear c57
                                try clear c57b0
                                try clear c57b1
                                try clear c57b2
                                try clear c58
                                try clear c58b0
                                try clear c58b1
                                try clear c58b2
                                try clear c59
                                try clear c59b0
                                try clear c59b1
                                try clear c59b2
                                try clear c62
                                try clear p64
                                try clear c66
                                try clear c66b0
                                try clear c67
                                try clear c67b0
                                try clear c69
                                try clear c69b0
                                try clear c69b1
                                try clear c69b2
                                try clear c70
                                try clear c70b0
                                try clear c70b1
                                try clear c70b2
                                try clear c75
                                try clear c75b0
                                try clear c75b1
                                try clear c76
                                try clear c76b0
                                try clear c76b1
                                try clear c76b2
                                try clear hcz11_0
                                try clear hcz11_1
                                try clear hcz11_2
                                try clear hcz11_3
                                try clear hcz11_4
                                try clear hcz11_5
                                try clear hcz11_6
                                try clear hcz16_0
                                try clear hcz16_1
                                try clear hcz16_2
                                try clear hcz16_3
                                try clear hcz16_4
                                try clear hcz16_5
                                try clear hcz16_6
                                try clear hcz19_0
                                try clear hcz19_1
                                try clear hcz19_2
                                try clear hcz19_3
                                try clear hcz19_4
                                try clear hcz19_5
                                try clear hcz19_6
                                try clear hcz24_0
                                try clear hcz24_1
                                try clear hcz24_2
                                try clear hcz24_3
                                try clear hcz24_4
                                try clear hcz24_5
                                try clear hcz24_6
                                try clear hcz27_0
                                try clear hcz27_1
                                try clear hcz27_2
                                try clear hcz27_3
                                try clear hcz27_4
                                try clear hcz27_5
                                try clear hcz27_6
                                try clear hcz32_0
                                try clear hcz32_1
                                try clear hcz32_2
                                try clear hcz32_3
                                try clear hcz32_4
                                try clear hcz32_5
                                try clear hcz32_6
                                try clear hcz47_0
                                try clear hcz47_1
                                try clear hcz47_2
                                try clear hcz47_3
                                try clear hcz47_4
                                try clear hcz47_5
                                try clear hcz47_6
                                try clear hcz4_0
                                try clear hcz4_1
                                try clear hcz4_2
                                try clear hcz4_3
                                try clear hcz4_4
                                try clear hcz4_5
                                try clear hcz4_6
                                try clear hcz50_0
                                try clear hcz50_1
                                try clear hcz50_2
                                try clear hcz50_3
                                try clear hcz60_0
                                try clear hcz60_1
                                try clear hcz60_2
                                try clear hcz60_3
                                try clear hcz60_4
                                try clear hcz60_5
                                try clear hcz60_6
                                try clear hcz63_0
                                try clear hcz63_1
                                try clear hcz63_2
                                try clear hcz63_3
                                try clear hcz65_0
                                try clear hcz65_1
                                try clear hcz65_2
                                try clear hcz65_3
                                try clear hcz65_4
                                try clear hcz65_5
                                try clear hcz65_6
                                try clear hcz71_0
                                try clear hcz71_1
                                try clear hcz71_2
                                try clear hcz71_3
                                try clear hcz71_4
                                try clear hcz71_5
                                try clear hcz71_6
                                try clear hcz74_0
                                try clear hcz74_1
                                try clear hcz74_2
                                try clear hcz74_3
                                try clear hcz74_4
                                try clear hcz74_5
                                try clear hcz74_6
                                try clear hcz8_0
                                try clear hcz8_1
                                try clear hcz8_2
                                try clear hcz8_3
                                try clear hcz8_4
                                try clear hcz8_5
                                try clear hcz8_6
                                try clear hfz11_0
                                try clear hfz11_1
                                try clear hfz11_2
                                try clear hfz11_3
                                try clear hfz11_4
                                try clear hfz11_5
                                try clear hfz11_6
                                try clear hfz16_0
                                try clear hfz16_1
                                try clear hfz16_2
                                try clear hfz16_3
                                try clear hfz16_4
                                try clear hfz16_5
                                try clear hfz16_6
                                try clear hfz19_0
                                try clear hfz19_1
                                try clear hfz19_2
                                try clear hfz19_3
                                try clear hfz19_4
                                try clear hfz19_5
                                try clear hfz19_6
                                try clear hfz24_0
                                try clear hfz24_1
                                try clear hfz24_2
                                try clear hfz24_3
                                try clear hfz24_4
                                try clear hfz24_5
                                try clear hfz24_6
                                try clear hfz27_0
                                try clear hfz27_1
                                try clear hfz27_2
                                try clear hfz27_3
                                try clear hfz27_4
                                try clear hfz27_5
                                try clear hfz27_6
                                try clear hfz32_0
                                try clear hfz32_1
                                try clear hfz32_2
                                try clear hfz32_3
                                try clear hfz32_4
                                try clear hfz32_5
                                try clear hfz32_6
                                try clear hfz47_0
                                try clear hfz47_1
                                try clear hfz47_2
                                try clear hfz47_3
                                try clear hfz47_4
                                try clear hfz47_5
                                try clear hfz47_6
                                try clear hfz4_0
                                try clear hfz4_1
                                try clear hfz4_2
                                try clear hfz4_3
                                try clear hfz4_4
                                try clear hfz4_5
                                try clear hfz4_6
                                try clear hfz50_0
                                try clear hfz50_1
                                try clear hfz50_2
                                try clear hfz50_3
                                try clear hfz60_0
                                try clear hfz60_1
                                try clear hfz60_2
                                try clear hfz60_3
                                try clear hfz60_4
                                try clear hfz60_5
                                try clear hfz60_6
                                try clear hfz63_0
                                try clear hfz63_1
                                try clear hfz63_2
                                try clear hfz63_3
                                try clear hfz65_0
                                try clear hfz65_1
                                try clear hfz65_2
                                try clear hfz65_3
                                try clear hfz65_4
                                try clear hfz65_5
                                try clear hfz65_6
                                try clear hfz71_0
                                try clear hfz71_1
                                try clear hfz71_2
                                try clear hfz71_3
                                try clear hfz71_4
                                try clear hfz71_5
                                try clear hfz71_6
                                try clear hfz74_0
                                try clear hfz74_1
                                try clear hfz74_2
                                try clear hfz74_3
                                try clear hfz74_4
                                try clear hfz74_5
                                try clear hfz74_6
                                try clear hfz8_0
                                try clear hfz8_1
                                try clear hfz8_2
                                try clear hfz8_3
                                try clear hfz8_4
                                try clear hfz8_5
                                try clear hfz8_6
                                try clear hx188_0
                                try clear hx188_1
                                try clear hx188_2
                                try clear hx188_3
                                try clear hx194_0
                                try clear p1
                                try clear p18
                                try clear p188
                                try clear p194
                                try clear p2
                                try clear p6
                                try clear p64
                                try clear q1
                                try clear q18
                                try clear q188
                                try clear q194
                                try clear q3
                                try clear q36
                                obtain ⟨kq, x3_72, rfl, HA, HJ72, BK183, HB⟩ := hcut
                                cases kq with
                                | zero => exact absurd HA.out (by simp [cachepotref3_Tell.j6])
                                | succ kj72 =>
                                  have H := HA.out
                                  clear HA
                                  simp only [cachepotref3_Tell.j6] at H
                                  have H' := Aside0.mk H
                                  clear H
                                  go_wp2
                                  go_loopg [3, 7] kj72 (fun kq v3 v7 w' => ∃ (x3_8 : ByteArray) (x7_8 : Int), v3 = .string x3_8 ∧ v7 = .int .i64 x7_8 ∧ Aside0 (cachepotref3_Tell.l2 kq x3_8 x7_8 a0_0 a0_1 a0_2 a0_3 l0_4 l0_5 l0_6 = some r) ∧ Aside0 (kq ≤ kj72) ∧ Aside0 (w'.heap[gb183]? = some (.cells #[.int .i64 a0_0, .int .i64 a0_1, .int .u32 a0_2, .int .i64 a0_3, (.slice A0_4 l0_4.length c0_4), (.slice A0_5 l0_5.length c0_5), (.slice A0_6 l0_6.length c0_6)] 27 (0, 0))) ∧ Aside0 (Below w.heap.size w w'))
                                  case atStart => exact ⟨(x3_72), (0), (by first | rfl | (simp; done) | (simp [*]; done)), (by first | rfl | (simp; done) | (simp [*]; done)), H', ⟨Nat.le_refl _⟩, ⟨by (with_reducible repeat (first | refine blk_drewN ?_ _ | refine blk_drew ?_ | refine blk_alloc ?_ _)); exact BK183.out⟩, ⟨by repeat (first | (with_reducible first | exact HB.out | apply below_alloc | apply pw_below_drewN | apply below_drew1 | refine below_set ?_ GE183.out) | exact HB.out)⟩⟩
                                  case round =>
                                    clear H'
                                    try clear c1
                                    try clear p1
                                    try clear q1
                                    try clear hx1
                                    try clear c2
                                    try clear p2
                                    try clear c3
                                    try clear q3
                                    try clear c4
                                    try clear c5
                                    try clear c5b0
                                    try clear c5b1
                                    try clear c6
                                    try clear p6
                                    try clear c7
                                    try clear c7b0
                                    try clear c7b1
                                    try clear c7b2
                                    try clear c12
                                    try clear c12b0
                                    try clear c12b1
                                    try clear c13
                                    try clear c14
                                    try clear c14b0
                                    try clear c14b1
                                    try clear c14b2
                                    try clear c15
                                    try clear c15b0
                                    try clear c15b1
                                    try clear c15b2
                                    try clear p18
                                    try clear q18
                                    try clear hx18
                                    try clear p19
                                    try clear q19
                                    try clear hx19
                                    try clear c20
                                    try clear c20b0
                                    try clear c20b1
                                    try clear c22
                                    try clear c22b0
                                    try clear c22b1
                                    try clear c22b2
                                    try clear c23
                                    try clear c23b0
                                    try clear c23b1
                                    try clear c23b2
                                    try clear c28
                                    try clear c28b0
                                    try clear c28b1
                                    try clear c30
                                    try clear c30b0
                                    try clear c30b1
                                    try clear c30b2
                                    try clear c31
                                    try clear c31b0
                                    try clear c31b1
                                    try clear c31b2
                                    try clear c34
                                    try clear c34b0
                                    try clear c35
                                    try clear c35b0
                                    try clear q36
                                    try clear c37
                                    try clear c39
                                    try clear c39b0
                                    try clear c39b1
                                    try clear c39b2
                                    try clear c40
                                    try clear c40b0
                                    try clear c40b1
                                    try clear c40b2
                                    try clear c42
                                    try clear c42b0
                                    try clear c42b1
                                    try clear c42b2
                                    try clear c43
                                    try clear c43b0
                                    try clear c43b1
                                    try clear c43b2
                                    try clear c45
                                    try clear c45b0
                                    try clear c45b1
                                    try clear c45b2
                                    try clear c46
                                    try clear c46b0
                                    try clear c46b1
                                    try clear c46b2
                                    try clear c49
                                    try clear c57
                                    try clear c57b0
                                    try clear c57b1
                                    try clear c57b2
                                    try clear c58
                                    try clear c58b0
                                    try clear c58b1
                                    try clear c58b2
                                    try clear c59
                                    try clear c59b0
                                    try clear c59b1
                                    try clear c59b2
                                    try clear c62
                                    try clear p64
                                    try clear c66
                                    try clear c66b0
                                    try clear c67
                                    try clear c67b0
                                    try clear c69
                                    try clear c69b0
                                    try clear c69b1
                                    try clear c69b2
                                    try clear c70
                                    try clear c70b0
                                    try clear c70b1
                                    try clear c70b2
                                    try clear c75
                                    try clear c75b0
                                    try clear c75b1
                                    try clear c76
                                    try clear c76b0
                                    try clear c76b1
                                    try clear c76b2
                                    try clear hcz11_0
                                    try clear hcz11_1
                                    try clear hcz11_2
                                    try clear hcz11_3
                                    try clear hcz11_4
                                    try clear hcz11_5
                                    try clear hcz11_6
                                    try clear hcz16_0
                                    try clear hcz16_1
                                    try clear hcz16_2
                                    try clear hcz16_3
                                    try clear hcz16_4
                                    try clear hcz16_5
                                    try clear hcz16_6
                                    try clear hcz19_0
                                    try clear hcz19_1
                                    try clear hcz19_2
                                    try clear hcz19_3
                                    try clear hcz19_4
                                    try clear hcz19_5
                                    try clear hcz19_6
                                    try clear hcz24_0
                                    try clear hcz24_1
                                    try clear hcz24_2
                                    try clear hcz24_3
                                    try clear hcz24_4
                                    try clear hcz24_5
                                    try clear hcz24_6
                                    try clear hcz27_0
                                    try clear hcz27_1
                                    try clear hcz27_2
                                    try clear hcz27_3
                                    try clear hcz27_4
                                    try clear hcz27_5
                                    try clear hcz27_6
                                    try clear hcz32_0
                                    try clear hcz32_1
                                    try clear hcz32_2
                                    try clear hcz32_3
                                    try clear hcz32_4
                                    try clear hcz32_5
                                    try clear hcz32_6
                                    try clear hcz47_0
                                    try clear hcz47_1
                                    try clear hcz47_2
                                    try clear hcz47_3
                                    try clear hcz47_4
                                    try clear hcz47_5
                                    try clear hcz47_6
                                    try clear hcz4_0
                                    try clear hcz4_1
                                    try clear hcz4_2
                                    try clear hcz4_3
                                    try clear hcz4_4
                                    try clear hcz4_5
                                    try clear hcz4_6
                                    try clear hcz50_0
                                    try clear hcz50_1
                                    try clear hcz50_2
                                    try clear hcz50_3
                                    try clear hcz60_0
                                    try clear hcz60_1
                                    try clear hcz60_2
                                    try clear hcz60_3
                                    try clear hcz60_4
                                    try clear hcz60_5
                                    try clear hcz60_6
                                    try clear hcz63_0
                                    try clear hcz63_1
                                    try clear hcz63_2
                                    try clear hcz63_3
                                    try clear hcz65_0
                                    try clear hcz65_1
                                    try clear hcz65_2
                                    try clear hcz65_3
                                    try clear hcz65_4
                                    try clear hcz65_5
                                    try clear hcz65_6
                                    try clear hcz71_0
                                    try clear hcz71_1
                                    try clear hcz71_2
                                    try clear hcz71_3
                                    try clear hcz71_4
                                    try clear hcz71_5
                                    try clear hcz71_6
                                    try clear hcz74_0
                                    try clear hcz74_1
                                    try clear hcz74_2
                                    try clear hcz74_3
                                    try clear hcz74_4
                                    try clear hcz74_5
                                    try clear hcz74_6
                                    try clear hcz8_0
                                    try clear hcz8_1
                                    try clear hcz8_2
                                    try clear hcz8_3
                                    try clear hcz8_4
                                    try clear hcz8_5
                                    try clear hcz8_6
                                    try clear hfz11_0
                                    try clear hfz11_1
                                    try clear hfz11_2
                                    try clear hfz11_3
                                    try clear hfz11_4
                                    try clear hfz11_5
                                    try clear hfz11_6
                                    try clear hfz16_0
                                    try clear hfz16_1
                                    try clear hfz16_2
                                    try clear hfz16_3
                                    try clear hfz16_4
                                    try clear hfz16_5
                                    try clear hfz16_6
                                    try clear hfz19_0
                                    try clear hfz19_1
                                    try clear hfz19_2
                                    try clear hfz19_3
                                    try clear hfz19_4
                                    try clear hfz19_5
                                    try clear hfz19_6
                                    try clear hfz24_0
                                    try clear hfz24_1
                                    try clear hfz24_2
                                    try clear hfz24_3
                                    try clear hfz24_4
                                    try clear hfz24_5
                                    try clear hfz24_6
                                    try clear hfz27_0
                                    try clear hfz27_1
                                    try clear hfz27_2
                                    try clear hfz27_3
                                    try clear hfz27_4
                                    try clear hfz27_5
                                    try clear hfz27_6
                                    try clear hfz32_0
                                    try clear hfz32_1
                                    try clear hfz32_2
                                    try clear hfz32_3
                                    try clear hfz32_4
                                    try clear hfz32_5
                                    try clear hfz32_6
                                    try clear hfz47_0
                                    try clear hfz47_1
                                    try clear hfz47_2
                                    try clear hfz47_3
                                    try clear hfz47_4
                                    try clear hfz47_5
                                    try clear hfz47_6
                                    try clear hfz4_0
                                    try clear hfz4_1
                                    try clear hfz4_2
                                    try clear hfz4_3
                                    try clear hfz4_4
                                    try clear hfz4_5
                                    try clear hfz4_6
                                    try clear hfz50_0
                                    try clear hfz50_1
                                    try clear hfz50_2
                                    try clear hfz50_3
                                    try clear hfz60_0
                                    try clear hfz60_1
                                    try clear hfz60_2
                                    try clear hfz60_3
                                    try clear hfz60_4
                                    try clear hfz60_5
                                    try clear hfz60_6
                                    try clear hfz63_0
                                    try clear hfz63_1
                                    try clear hfz63_2
                                    try clear hfz63_3
                                    try clear hfz65_0
                                    try clear hfz65_1
                                    try clear hfz65_2
                                    try clear hfz65_3
                                    try clear hfz65_4
                                    try clear hfz65_5
                                    try clear hfz65_6
                                    try clear hfz71_0
                                    try clear hfz71_1
                                    try clear hfz71_2
                                    try clear hfz71_3
                                    try clear hfz71_4
                                    try clear hfz71_5
                                    try clear hfz71_6
                                    try clear hfz74_0
                                    try clear hfz74_1
                                    try clear hfz74_2
                                    try clear hfz74_3
                                    try clear hfz74_4
                                    try clear hfz74_5
                                    try clear hfz74_6
                                    try clear hfz8_0
                                    try clear hfz8_1
                                    try clear hfz8_2
                                    try clear hfz8_3
                                    try clear hfz8_4
                                    try clear hfz8_5
                                    try clear hfz8_6
                                    try clear hx188_0
                                    try clear hx188_1
                                    try clear hx188_2
                                    try clear hx188_3
                                    try clear hx194_0
                                    try clear p1
                                    try clear p18
                                    try clear p188
                                    try clear p19
                                    try clear p194
                                    try clear p2
                                    try clear p6
                                    try clear p64
                                    try clear q1
                                    try clear q18
                                    try clear q188
                                    try clear q19
                                    try clear q194
                                    try clear q3
                                    try clear q36
                                    obtain ⟨x3_8, x7_8, rfl, rfl, HA, HK8, BK183, HB⟩ := hrel
                                    cases gk with
                                    | zero => exact absurd HA.out (by simp [cachepotref3_Tell.l2])
                                    | succ k8 =>
                                      have H := HA.out
                                      clear HA
                                      simp only [cachepotref3_Tell.l2] at H
                                      by_cases c77 : x7_8 < (l0_6.length : Int)
                                      · rw [if_pos c77] at H
                                        have c77b0 : decide (x7_8 < (l0_6.length : Int)) = true := decide_eq_true c77
                                        clear c77
                                        by_cases c78 : 0 ≤ x7_8
                                        · rw [if_pos c78] at H
                                          have c78b0 : decide (0 ≤ x7_8) = true := decide_eq_true c78
                                          clear c78
                                          replace H := Option.bind_eq_some_iff.mp H
                                          obtain ⟨t197, A790, H⟩ := H
                                          replace H : (if 1 + t197.size ≤ 9223372036854775807 then (if x3_8.size + ((⟨#[32]⟩ : ByteArray) ++ t197).size ≤ 9223372036854775807 then (cachepotref3_Tell.l2 k8 (x3_8 ++ ((⟨#[32]⟩ : ByteArray) ++ t197)) (wrap64 (x7_8 + 1)) a0_0 a0_1 a0_2 a0_3 l0_4 l0_5 l0_6) else (none)) else (none)) = some r := H
                                          have A79 := Aside0.mk A790
                                          clear A790
                                          by_cases c80 : 1 + t197.size ≤ 9223372036854775807
                                          · rw [if_pos c80] at H
                                            have c80b0 := eq_true c80
                                            have c80b1 : decide (1 + t197.size ≤ 9223372036854775807) = true := decide_eq_true c80
                                            try have c80b2 : (9223372036854775807 < 1 + t197.size) = False := eq_false (Nat.not_lt.2 c80)
                                            by_cases c81 : x3_8.size + ((⟨#[32]⟩ : ByteArray) ++ t197).size ≤ 9223372036854775807
                                            · rw [if_pos c81] at H
                                              have c81b0 := eq_true c81
                                              have c81b1 : decide (x3_8.size + ((⟨#[32]⟩ : ByteArray) ++ t197).size ≤ 9223372036854775807) = true := decide_eq_true c81
                                              try have c81b2 : (9223372036854775807 < x3_8.size + ((⟨#[32]⟩ : ByteArray) ++ t197).size) = False := eq_false (Nat.not_lt.2 c81)
                                              try have c81b9 : (9223372036854775807 < x3_8.size + (1 + t197.size)) = False := by (have h_ := c81b2; rw [ByteArray.size_append] at h_; exact h_)
                                              have H' := Aside0.mk H
                                              clear H
                                              have hcz82_0 : wr.cell? ⟨gb183, 0, none⟩ = some (.int .i64 a0_0) := (blk_cell BK183.out 0).trans rfl
                                              have hcz82_1 : wr.cell? ⟨gb183, 1, none⟩ = some (.int .i64 a0_1) := (blk_cell BK183.out 1).trans rfl
                                              have hcz82_2 : wr.cell? ⟨gb183, 2, none⟩ = some (.int .u32 a0_2) := (blk_cell BK183.out 2).trans rfl
                                              have hcz82_3 : wr.cell? ⟨gb183, 3, none⟩ = some (.int .i64 a0_3) := (blk_cell BK183.out 3).trans rfl
                                              have hcz82_4 : wr.cell? ⟨gb183, 4, none⟩ = some (.slice A0_4 l0_4.length c0_4) := (blk_cell BK183.out 4).trans rfl
                                              have hcz82_5 : wr.cell? ⟨gb183, 5, none⟩ = some (.slice A0_5 l0_5.length c0_5) := (blk_cell BK183.out 5).trans rfl
                                              have hcz82_6 : wr.cell? ⟨gb183, 6, none⟩ = some (.slice A0_6 l0_6.length c0_6) := (blk_cell BK183.out 6).trans rfl
                                              have hfz82_0 := blk_frozen BK183.out 0
                                              have hfz82_1 := blk_frozen BK183.out 1
                                              have hfz82_2 := blk_frozen BK183.out 2
                                              have hfz82_3 := blk_frozen BK183.out 3
                                              have hfz82_4 := blk_frozen BK183.out 4
                                              have hfz82_5 := blk_frozen BK183.out 5
                                              have hfz82_6 := blk_frozen BK183.out 6
                                              have p196 : 0 ≤ (x7_8 : Int) := of_decide_eq_true (by first | (with_reducible assumption) | assumption)
                                              have q196 : x7_8 < (l0_6.length : Int) := of_decide_eq_true (by first | (with_reducible assumption) | assumption)
                                              obtain ⟨ad196, e196, hx196_0⟩ := Kd.at_string HR0_6.out x7_8 p196 q196
                                              cases e196
                                              replace hx196_0 := (HB.out.cell (World.block_lt_of_cell? w _ hx196_0)).trans hx196_0
                                              replace p196 := eq_true p196
                                              replace q196 := eq_true q196
                                              go_wp2_with (first | ((with_reducible refine gate_callee (f := 14) rfl ?_); refine goesL_ (some 116) rfl rfl Tryz.func14 (by kernel_rfl) rfl #[.string (rdOf ByteArray.empty l0_6 x7_8)] rfl (by (try simp only [List.map_toArray, List.map_cons, List.map_nil]); first | done | rfl | (simp only [List.length_drop, List.length_take]; rfl)) ?_; (with_reducible refine (cachepotref3_Quote.calls (rdOf ByteArray.empty l0_6 x7_8) t197 _ A79.out).mono ?_); rintro e w83 ⟨rfl, hb⟩; refine ⟨_, rfl, ?_⟩; have n0_ := Aside0.mk (blk_below (g := gb183) (o := .cells #[.int .i64 a0_0, .int .i64 a0_1, .int .u32 a0_2, .int .i64 a0_3, .slice A0_4 l0_4.length c0_4, .slice A0_5 l0_5.length c0_5, .slice (some ad196) l0_6.length c0_6] 27 (0, 0)) (by (with_reducible repeat (first | refine blk_drewN ?_ _ | refine blk_drew ?_ | refine blk_alloc ?_ _)); exact BK183.out) hb); have n1_ := Aside0.mk (below_step (by repeat (first | (with_reducible first | exact HB.out | apply below_alloc | apply pw_below_drewN | apply below_drew1 | refine below_set ?_ GE183.out) | exact HB.out)) hb); clear BK183; clear HB; have BK183 := n0_; have HB := n1_; clear n0_ n1_; (try clear hb); (try clear hb2); (try clear hk); (try clear hi)))
                                              go_roundg k8
                                              case measure => have := HJ1.out; have := HJ9.out; have := HJ17.out; have := HJ25.out; have := HK5.out; have := HK6.out; have := HJ72.out; have := HK8.out; omega
                                              case rel => exact ⟨(x3_8 ++ ((⟨#[32]⟩ : ByteArray) ++ t197)), (wrap64 (x7_8 + 1)), (by first | rfl | (simp; done) | (simp [*]; done)), (by first | rfl | (simp; done) | (simp [*]; done)), H', ⟨by have := HJ1.out; have := HJ9.out; have := HJ17.out; have := HJ25.out; have := HK5.out; have := HK6.out; have := HJ72.out; have := HK8.out; omega⟩, ⟨by (with_reducible repeat (first | refine blk_drewN ?_ _ | refine blk_drew ?_ | refine blk_alloc ?_ _)); exact BK183.out⟩, ⟨by repeat (first | (with_reducible first | exact HB.out | apply below_alloc | apply pw_below_drewN | apply below_drew1 | refine below_set ?_ GE183.out) | exact HB.out)⟩⟩
                                            · rw [if_neg c81] at H
                                              exact absurd H (by simp)
                                          · rw [if_neg c80] at H
                                            exact absurd H (by simp)
                                        · rw [if_neg c78] at H
                                          exact absurd H (by simp)
                                      · rw [if_neg c77] at H
                                        have c77b0 : decide (x7_8 < (l0_6.length : Int)) = false := decide_eq_false c77
                                        clear c77
                                        obtain rfl := Option.some.inj H
                                        have hcz84_0 : wr.cell? ⟨gb183, 0, none⟩ = some (.int .i64 a0_0) := (blk_cell BK183.out 0).trans rfl
                                        have hcz84_1 : wr.cell? ⟨gb183, 1, none⟩ = some (.int .i64 a0_1) := (blk_cell BK183.out 1).trans rfl
                                        have hcz84_2 : wr.cell? ⟨gb183, 2, none⟩ = some (.int .u32 a0_2) := (blk_cell BK183.out 2).trans rfl
                                        have hcz84_3 : wr.cell? ⟨gb183, 3, none⟩ = some (.int .i64 a0_3) := (blk_cell BK183.out 3).trans rfl
                                        have hcz84_4 : wr.cell? ⟨gb183, 4, none⟩ = some (.slice A0_4 l0_4.length c0_4) := (blk_cell BK183.out 4).trans rfl
                                        have hcz84_5 : wr.cell? ⟨gb183, 5, none⟩ = some (.slice A0_5 l0_5.length c0_5) := (blk_cell BK183.out 5).trans rfl
                                        have hcz84_6 : wr.cell? ⟨gb183, 6, none⟩ = some (.slice A0_6 l0_6.length c0_6) := (blk_cell BK183.out 6).trans rfl
                                        have hfz84_0 := blk_frozen BK183.out 0
                                        have hfz84_1 := blk_frozen BK183.out 1
                                        have hfz84_2 := blk_frozen BK183.out 2
                                        have hfz84_3 := blk_frozen BK183.out 3
                                        have hfz84_4 := blk_frozen BK183.out 4
                                        have hfz84_5 := blk_frozen BK183.out 5
                                        have hfz84_6 := blk_frozen BK183.out 6
                                        go_wp2
                                        go_ret
                                        exact ⟨by first | rfl | (simp [errW_none, errW_some] <;> rfl) | (simp [*, errW_none, errW_some] <;> rfl), by repeat (first | (with_reducible first | exact HB.out | apply below_alloc | apply pw_below_drewN | apply below_drew1 | refine below_set ?_ GE183.out) | exact HB.out)⟩
end Go.Proofs.YtkehbnkfgbcpnaaGreatDoor.Wd
end
