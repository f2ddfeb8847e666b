/-
  Texts of mine, and texts that print.sh and pp.py wrote, merged and cut to what is used: Lg11, Lg7, Lg12, Lg5, Lg6, Shelf, Bld, Tabs, Wd0, HandE, SpecW, HandF, HandL, Lg2, Lg1, Lg3, Lg4, HandK, PureM, HandN
-/
import Derived.Test.YtfaelejeihmgcaaDoorProg
import Derived.Below
import Derived.Lib.ItoaMem
import Derived.Lib.LaidTab
import Derived.Deep.Draws
import Derived.Deep.AppendLies
import Derived.Maps.AppendAt
import Derived.OwnWalk
import Derived.Laws.BytesArg
import Derived.Laws.MakeOwn
import Derived.Laws.OwnMore
import Derived.Deep.OwnRows
import Derived.Tactics
import Derived.Lib.ConvBytes
import Derived.Laws.Slices
import Derived.WalkKit
import Derived.KernelRfl
import Derived.RowKit3
import Derived.Deep.LoopGhost
import Derived.Deep.QuietTactic
import Derived.BigQuiet
import Derived.WideLaws
import Derived.Deep.DeepCutAuto
import Derived.Deep.CutBlock
import Derived.Deep.RegionHeld3
import Derived.Laws.Rows
import Derived.Lib.AppendStr
import Derived.ArgAppend
import Derived.Laws.IdiomCopy
import Derived.RowKit
import Derived.Test.YtfaelejeihmgcaaDoorRows
import Derived.ChangeArms
import Derived.DataReads
import Derived.DataElems
import Derived.OrdersHeld
import Derived.Laws.BitsLemmas
import Derived.Laws.StructEq
import Derived.Test.YtfaelejeihmgcaaDoorCards
import Derived.Test.YtfaelejeihmgcaaDoorTie
import Derived.Lib.LaidU8
import Derived.LaidMore
import Derived.Lay
import Derived.ProofKit
import Derived.OpenShut
import Derived.SevenTiedAt
import Derived.Stop.Joined
import Derived.Deep.DeepHandedRow
import Derived.SliceStrings
import Derived.Carry
import Derived.Shelf.Strconv.Itoa0
import Derived.Shelf.Strconv.Itoa1
import Derived.Shelf.LaysM
import Derived.Shelf.Strconv.Itoa2
import Derived.Lib.Strings
import Derived.Lib.Slices
import Derived.Lib.Walk
import Derived.Lib.Builder
import Derived.Lib.UnsafeStr
import Derived.Shelf.Strings.Builder1
import Derived.Shelf.Strings.OnBuilder
import Derived.Shelf.Unicode.DecodeSlow
import Derived.Shelf.Unicode.DecodeAny
import Derived.Laws.Externs
import Derived.Lib.DecodeNEq
import Derived.StillTailTactics
import Derived.Outline
import Derived.Lib.Hide
import Derived.IntWalk
import Derived.WalkSpells
import Derived.Tactics2
import Derived.Laws.Pointers
import Derived.Lib.AppendIntMem
import Derived.BigCall
import Derived.BigGuard
import Derived.FnData
import Derived.Deep.MidRow
import Derived.Maps.OwnSet
import Derived.StillTactics
import Derived.Test.YtfaelejeihmgcaaDoorMr0

section
namespace Go.Proofs.YtfaelejeihmgcaaDoor.Lgx
open Go.RowKit Go.Proofs.YtfaelejeihmgcaaDoorW.PrintWords Go.Proofs.YtfaelejeihmgcaaDoorW.PrintLast Go.Proofs.YtfaelejeihmgcaaDoorW.PrintMore
attribute [local go_sem] max2_int min2_int max_two min_two max_three min_three max_four min_four   -- for this text's walks alone
set_option linter.unusedVariables false
set_option linter.unusedSimpArgs false
def ledger_deleted.l0 : Nat → ByteArray → List (S43) → Int → Int → Option (Bool)
  | 0, _, _, _, _ => none
  | k + 1, x1, x9, x10, x11 => if x11 < x10 then (if 0 ≤ x11 then (if x11 < (x9.length : Int) then ((ledger_last.f k ((rd_T43 x9 x11).f2) x1).bind fun bt277 => (if ((rd_T43 x9 x11).f0) = 1 then (if bt277.2.2.2 = true then (if bt277.2.1 = true then (some true) else (ledger_deleted.l0 k x1 x9 x10 (wrap64 (x11 + 1)))) else (ledger_deleted.l0 k x1 x9 x10 (wrap64 (x11 + 1)))) else (ledger_deleted.l0 k x1 x9 x10 (wrap64 (x11 + 1))))) else (none)) else (none)) else (some false)
def ledger_deleted.f (k : Nat) (l0 : List (S43)) (a1 : ByteArray) : Option (Bool) := ledger_deleted.l0 k a1 l0 (l0.length : Int) 0
set_option maxHeartbeats 8000000 in
set_option maxRecDepth 100000 in
theorem ledger_deleted.calls (k : Nat) (A0 : Option Addr) (c0 : Nat) (l0 : List (S43)) (a1 : ByteArray) (r : Bool) (w : World) (hr0 : Kd.C k43 w A0 l0.length l0) (hc0 : l0.length ≤ c0) (h : ledger_deleted.f k l0 a1 = some r) :
    Calls Tryd.prog 105 #[.slice A0 l0.length c0, .string a1] w fun e w' => e = .returned (.bool r) ∧ Below w.heap.size w w' := by
  have hu43 := Tryd.underlying43
  have hu101 := Tryd.underlying101
  have HR0 := Aside0.mk hr0
  have HC0 := Aside0.mk hc0
  clear hr0 hc0
  have HB := Aside0.mk (Below.refl w.heap.size w)
  have H : (ledger_deleted.l0 k a1 l0 (l0.length : Int) 0) = some r := h
  clear h
  have H' := Aside0.mk H
  clear H
  go_enter Tryd.func105, Tryd.ntmps105
  go_wp2
  go_loopg [11] k (fun kq v11 w' => ∃ (x11_1 : Int), v11 = .int .i64 x11_1 ∧ Aside0 (ledger_deleted.l0 kq a1 l0 (l0.length : Int) x11_1 = some r) ∧ Aside0 (kq ≤ k) ∧ Aside0 (Below w.heap.size w w'))
  case atStart => exact ⟨(0), (by first | rfl | (simp; done) | (simp [*]; done)), H', ⟨Nat.le_refl _⟩, ⟨by repeat (first | (with_reducible first | exact HB.out | apply below_alloc | apply pw_below_drewN | apply below_drew1) | exact HB.out)⟩⟩
  case round =>
    clear H'
    try clear c1
    try clear p2
    obtain ⟨x11_1, rfl, HA, HK1, HB⟩ := hrel
    cases gk with
    | zero => exact absurd HA.out (by simp [ledger_deleted.l0])
    | succ k1 =>
      have H := HA.out
      clear HA
      simp only [ledger_deleted.l0] at H
      by_cases c3 : x11_1 < (l0.length : Int)
      · rw [if_pos c3] at H
        have c3b0 : decide (x11_1 < (l0.length : Int)) = true := decide_eq_true c3
        clear c3
        by_cases c4 : 0 ≤ x11_1
        · rw [if_pos c4] at H
          have c4b0 : decide (0 ≤ x11_1) = true := decide_eq_true c4
          clear c4
          by_cases c5 : x11_1 < (l0.length : Int)
          · rw [if_pos c5] at H
            have c5b0 : decide (x11_1 < (l0.length : Int)) = true := decide_eq_true c5
            clear c5
            replace H := Option.bind_eq_some_iff.mp H
            obtain ⟨⟨t277, t278, t279, t280⟩, A60, H⟩ := H
            replace H : (if ((rd_T43 l0 x11_1).f0) = 1 then (if t280 = true then (if t278 = true then (some true) else (ledger_deleted.l0 k1 a1 l0 (l0.length : Int) (wrap64 (x11_1 + 1)))) else (ledger_deleted.l0 k1 a1 l0 (l0.length : Int) (wrap64 (x11_1 + 1)))) else (ledger_deleted.l0 k1 a1 l0 (l0.length : Int) (wrap64 (x11_1 + 1)))) = some r := H
            have A6 := Aside0.mk A60
            clear A60
            by_cases c7 : ((rd_T43 l0 x11_1).f0) = 1
            · rw [if_pos c7] at H
              have c7b0 : (((rd_T43 l0 x11_1).f0) == 1) = true := beq_iff_eq.mpr c7
              have c7b1 : (((rd_T43 l0 x11_1).f0) != 1) = false := bne_eq_false_iff_eq.mpr c7
              clear c7
              by_cases c8 : t280 = true
              · subst c8
                have H1 : (if t278 = true then (some true) else (ledger_deleted.l0 k1 a1 l0 (l0.length : Int) (wrap64 (x11_1 + 1)))) = some r := by rw [if_pos rfl] at H; exact H
                clear H
                have H := H1
                clear H1
                by_cases c9 : t278 = true
                · subst c9
                  have H1 : (some true) = some r := by rw [if_pos rfl] at H; exact H
                  clear H
                  have H := H1
                  clear H1
                  obtain rfl := Option.some.inj H
                  have p275 : 0 ≤ (x11_1 : Int) := of_decide_eq_true (by first | (with_reducible assumption) | assumption)
                  have q275 : x11_1 < (l0.length : Int) := of_decide_eq_true (by first | (with_reducible assumption) | assumption)
                  obtain ⟨ad275, A275_2, c275_2, A275_3, c275_3, A275_4, c275_4, e275, hx275_0, hx275_1, hx275_2, hx275_3, hx275_4, hl275_2, hi275_2, hl275_3, hi275_3, hl275_4, hi275_4⟩ := at_T43 HR0.out x11_1 p275 q275
                  cases e275
                  replace hx275_0 := (HB.out.cell (World.block_lt_of_cell? w _ hx275_0)).trans hx275_0
                  replace hx275_1 := (HB.out.cell (World.block_lt_of_cell? w _ hx275_1)).trans hx275_1
                  replace hx275_2 := (HB.out.cell (World.block_lt_of_cell? w _ hx275_2)).trans hx275_2
                  replace hx275_3 := (HB.out.cell (World.block_lt_of_cell? w _ hx275_3)).trans hx275_3
                  replace hx275_4 := (HB.out.cell (World.block_lt_of_cell? w _ hx275_4)).trans hx275_4
                  have HR275_2 := Aside0.mk hi275_2
                  have HC275_2 := Aside0.mk hl275_2
                  clear hi275_2 hl275_2
                  have HR275_3 := Aside0.mk hi275_3
                  have HC275_3 := Aside0.mk hl275_3
                  clear hi275_3 hl275_3
                  have HR275_4 := Aside0.mk hi275_4
                  have HC275_4 := Aside0.mk hl275_4
                  clear hi275_4 hl275_4
                  replace p275 := eq_true p275
                  replace q275 := eq_true q275
                  go_wp2_with (first | ((with_reducible refine gate_dst (N := 6) rfl ?_); refine box_event ?hg (N := 6) ?hd (cs := #[.int .i64 0, .int .u32 0, .slice none 0 0, .slice none 0 0, .slice none 0 0]) (t := 43) ?hr ?_; (case hd => rfl); (case hg => rfl); (case hr => first | (go_simp; done) | (go_simp; rfl)); intro gb276 hg w10 hbox hb; have n0_ := Aside0.mk (below_step (by repeat (first | (with_reducible first | exact HB.out | apply below_alloc | apply pw_below_drewN | apply below_drew1) | exact HB.out)) hb); have n1_ := Aside0.mk (hbox); have n2_ := Aside0.mk ((by rw [hg]; exact (below_size (by repeat (first | (with_reducible first | exact HB.out | apply below_alloc | apply pw_below_drewN | apply below_drew1) | exact HB.out))) : w.heap.size ≤ gb276)); have n3_ := Aside0.mk ((by rw [hg]; exact (below_size (by repeat (first | (with_reducible first | exact HB.out | apply below_alloc | apply pw_below_drewN | apply below_drew1) | exact HB.out))) : w.heap.size ≤ gb276)); clear HB; have HB := n0_; have BK276 := n1_; have GW276 := n2_; have GE276 := n3_; clear n0_ n1_ n2_ n3_; clear hb hbox hg; have hcz11_0 : w10.cell? ⟨gb276, 0, none⟩ = some (.int .i64 0) := (blk_cell BK276.out 0).trans rfl; have hcz11_1 : w10.cell? ⟨gb276, 1, none⟩ = some (.int .u32 0) := (blk_cell BK276.out 1).trans rfl; have hcz11_2 : w10.cell? ⟨gb276, 2, none⟩ = some (.slice none 0 0) := (blk_cell BK276.out 2).trans rfl; have hcz11_3 : w10.cell? ⟨gb276, 3, none⟩ = some (.slice none 0 0) := (blk_cell BK276.out 3).trans rfl; have hcz11_4 : w10.cell? ⟨gb276, 4, none⟩ = some (.slice none 0 0) := (blk_cell BK276.out 4).trans rfl; have hfz11_0 := blk_frozen BK276.out 0; have hfz11_1 := blk_frozen BK276.out 1; have hfz11_2 := blk_frozen BK276.out 2; have hfz11_3 := blk_frozen BK276.out 3; have hfz11_4 := blk_frozen BK276.out 4) | ((with_reducible refine gate_callee (f := 104) rfl ?_); refine goesL_ (some 19) rfl rfl Tryd.func104 (by kernel_rfl) rfl #[.slice A275_2 ((rd_T43 l0 x11_1).f2).length c275_2, .string a1] rfl (by (try simp only [List.map_toArray, List.map_cons, List.map_nil]); first | done | rfl | (simp only [List.length_drop, List.length_take]; rfl)) ?_; (with_reducible refine (ledger_last.calls k1 _ _ ((rd_T43 l0 x11_1).f2) a1 t277 true t279 true _ ?side1 ?side2 A6.out).mono ?_); (case side1 => exact Kd.C_below HR275_2.out (by repeat (first | (with_reducible first | exact HB.out | apply below_alloc | apply pw_below_drewN | apply below_drew1 | refine below_set ?_ GE276.out) | exact HB.out))); (case side2 => exact HC275_2.out); rintro e w12 ⟨rfl, hb⟩; refine ⟨_, rfl, ?_⟩; have n0_ := Aside0.mk (blk_below (g := gb276) (o := .cells #[.int .i64 ((rd_T43 l0 x11_1).f0), .int .u32 ((rd_T43 l0 x11_1).f1), .slice A275_2 ((rd_T43 l0 x11_1).f2).length c275_2, .slice A275_3 ((rd_T43 l0 x11_1).f3).length c275_3, .slice A275_4 ((rd_T43 l0 x11_1).f4).length c275_4] 43 (0, 0)) (by (with_reducible repeat (first | refine blk_drewN ?_ _ | refine blk_drew ?_ | refine blk_alloc ?_ _)); refine blk_put (cs := #[.int .i64 ((rd_T43 l0 x11_1).f0), .int .u32 ((rd_T43 l0 x11_1).f1), .slice A275_2 ((rd_T43 l0 x11_1).f2).length c275_2, .slice A275_3 ((rd_T43 l0 x11_1).f3).length c275_3, .slice none 0 0]) ?_ 4 _ rfl; (with_reducible repeat (first | refine blk_drewN ?_ _ | refine blk_drew ?_ | refine blk_alloc ?_ _)); refine blk_put (cs := #[.int .i64 ((rd_T43 l0 x11_1).f0), .int .u32 ((rd_T43 l0 x11_1).f1), .slice A275_2 ((rd_T43 l0 x11_1).f2).length c275_2, .slice none 0 0, .slice none 0 0]) ?_ 3 _ rfl; (with_reducible repeat (first | refine blk_drewN ?_ _ | refine blk_drew ?_ | refine blk_alloc ?_ _)); refine blk_put (cs := #[.int .i64 ((rd_T43 l0 x11_1).f0), .int .u32 ((rd_T43 l0 x11_1).f1), .slice none 0 0, .slice none 0 0, .slice none 0 0]) ?_ 2 _ rfl; (with_reducible repeat (first | refine blk_drewN ?_ _ | refine blk_drew ?_ | refine blk_alloc ?_ _)); refine blk_put (cs := #[.int .i64 ((rd_T43 l0 x11_1).f0), .int .u32 0, .slice none 0 0, .slice none 0 0, .slice none 0 0]) ?_ 1 _ rfl; (with_reducible repeat (first | refine blk_drewN ?_ _ | refine blk_drew ?_ | refine blk_alloc ?_ _)); refine blk_put (cs := #[.int .i64 0, .int .u32 0, .slice none 0 0, .slice none 0 0, .slice none 0 0]) ?_ 0 _ rfl; (with_reducible repeat (first | refine blk_drewN ?_ _ | refine blk_drew ?_ | refine blk_alloc ?_ _)); exact BK276.out) hb); have n1_ := Aside0.mk (below_step (by repeat (first | (with_reducible first | exact HB.out | apply below_alloc | apply pw_below_drewN | apply below_drew1 | refine below_set ?_ GE276.out) | exact HB.out)) hb); clear BK276; clear HB; have BK276 := n0_; have HB := n1_; clear n0_ n1_; (try clear hb); (try clear hb2); (try clear hk); (try clear hi)) | ((with_reducible refine gate_dst (N := 7) rfl ?_); refine box_event ?hg (N := 7) ?hd (cs := #[.string (⟨#[]⟩ : ByteArray), .bool false, .string (⟨#[]⟩ : ByteArray)]) (t := 101) ?hr ?_; (case hd => rfl); (case hg => rfl); (case hr => first | (go_simp; done) | (go_simp; rfl)); intro gb281 hg w13 hbox hb; have n0_ := Aside0.mk (blk_below (g := gb276) (o := .cells #[.int .i64 ((rd_T43 l0 x11_1).f0), .int .u32 ((rd_T43 l0 x11_1).f1), .slice A275_2 ((rd_T43 l0 x11_1).f2).length c275_2, .slice A275_3 ((rd_T43 l0 x11_1).f3).length c275_3, .slice A275_4 ((rd_T43 l0 x11_1).f4).length c275_4] 43 (0, 0)) (by (with_reducible repeat (first | refine blk_drewN ?_ _ | refine blk_drew ?_ | refine blk_alloc ?_ _)); exact BK276.out) hb); have n1_ := Aside0.mk (below_step (by repeat (first | (with_reducible first | exact HB.out | apply below_alloc | apply pw_below_drewN | apply below_drew1 | refine below_set ?_ GE276.out) | exact HB.out)) hb); have n2_ := Aside0.mk (hbox); have n3_ := Aside0.mk ((by rw [hg]; exact (below_size (by repeat (first | (with_reducible first | exact HB.out | apply below_alloc | apply pw_below_drewN | apply below_drew1 | refine below_set ?_ GE276.out) | exact HB.out))) : w.heap.size ≤ gb281)); have n4_ := Aside0.mk ((by rw [hg]; exact (below_size (by repeat (first | (with_reducible first | exact HB.out | apply below_alloc | apply pw_below_drewN | apply below_drew1 | refine below_set ?_ GE276.out) | exact HB.out))) : w.heap.size ≤ gb281)); have n5_ := Aside0.mk ((by rw [hg]; exact Nat.ne_of_lt (blk_lt (g := gb276) (o := .cells #[.int .i64 ((rd_T43 l0 x11_1).f0), .int .u32 ((rd_T43 l0 x11_1).f1), .slice A275_2 ((rd_T43 l0 x11_1).f2).length c275_2, .slice A275_3 ((rd_T43 l0 x11_1).f3).length c275_3, .slice A275_4 ((rd_T43 l0 x11_1).f4).length c275_4] 43 (0, 0)) (by (with_reducible repeat (first | refine blk_drewN ?_ _ | refine blk_drew ?_ | refine blk_alloc ?_ _)); exact BK276.out)) : gb276 ≠ gb281)); have n6_ := Aside0.mk ((by rw [hg]; exact Nat.ne_of_gt (blk_lt (g := gb276) (o := .cells #[.int .i64 ((rd_T43 l0 x11_1).f0), .int .u32 ((rd_T43 l0 x11_1).f1), .slice A275_2 ((rd_T43 l0 x11_1).f2).length c275_2, .slice A275_3 ((rd_T43 l0 x11_1).f3).length c275_3, .slice A275_4 ((rd_T43 l0 x11_1).f4).length c275_4] 43 (0, 0)) (by (with_reducible repeat (first | refine blk_drewN ?_ _ | refine blk_drew ?_ | refine blk_alloc ?_ _)); exact BK276.out)) : gb281 ≠ gb276)); clear BK276; clear HB; have BK276 := n0_; have HB := n1_; have BK281 := n2_; have GW281 := n3_; have GE281 := n4_; have NB276_281 := n5_; have NB281_276 := n6_; clear n0_ n1_ n2_ n3_ n4_ n5_ n6_; clear hb hbox hg; have hnb14 := NB281_276.out; have hnc14 := NB276_281.out; have hcz15_0 : w13.cell? ⟨gb281, 0, none⟩ = some (.string (⟨#[]⟩ : ByteArray)) := (blk_cell BK281.out 0).trans rfl; have hcz15_1 : w13.cell? ⟨gb281, 1, none⟩ = some (.bool false) := (blk_cell BK281.out 1).trans rfl; have hcz15_2 : w13.cell? ⟨gb281, 2, none⟩ = some (.string (⟨#[]⟩ : ByteArray)) := (blk_cell BK281.out 2).trans rfl; have hfz15_0 := blk_frozen BK281.out 0; have hfz15_1 := blk_frozen BK281.out 1; have hfz15_2 := blk_frozen BK281.out 2; have hcz16_0 : w13.cell? ⟨gb276, 0, none⟩ = some (.int .i64 ((rd_T43 l0 x11_1).f0)) := (blk_cell BK276.out 0).trans rfl; have hcz16_1 : w13.cell? ⟨gb276, 1, none⟩ = some (.int .u32 ((rd_T43 l0 x11_1).f1)) := (blk_cell BK276.out 1).trans rfl; have hcz16_2 : w13.cell? ⟨gb276, 2, none⟩ = some (.slice A275_2 ((rd_T43 l0 x11_1).f2).length c275_2) := (blk_cell BK276.out 2).trans rfl; have hcz16_3 : w13.cell? ⟨gb276, 3, none⟩ = some (.slice A275_3 ((rd_T43 l0 x11_1).f3).length c275_3) := (blk_cell BK276.out 3).trans rfl; have hcz16_4 : w13.cell? ⟨gb276, 4, none⟩ = some (.slice A275_4 ((rd_T43 l0 x11_1).f4).length c275_4) := (blk_cell BK276.out 4).trans rfl; have hfz16_0 := blk_frozen BK276.out 0; have hfz16_1 := blk_frozen BK276.out 1; have hfz16_2 := blk_frozen BK276.out 2; have hfz16_3 := blk_frozen BK276.out 3; have hfz16_4 := blk_frozen BK276.out 4))
                  go_ret
                  exact ⟨by first | rfl | (simp [errW_none, errW_some] <;> rfl) | (simp [*, errW_none, errW_some] <;> rfl), by repeat (first | (with_reducible first | exact HB.out | apply below_alloc | apply pw_below_drewN | apply below_drew1 | refine below_set ?_ GE276.out | refine below_set ?_ GE281.out) | exact HB.out)⟩
                · replace c9 := Bool.eq_false_iff.mpr c9
                  subst c9
                  have H1 : (ledger_deleted.l0 k1 a1 l0 (l0.length : Int) (wrap64 (x11_1 + 1))) = some r := by rw [if_neg (show ¬ (false = true) by decide)] at H; exact H
                  clear H
                  have H := H1
                  clear H1
                  have H' := Aside0.mk H
                  clear H
                  have p275 : 0 ≤ (x11_1 : Int) := of_decide_eq_true (by first | (with_reducible assumption) | assumption)
                  have q275 : x11_1 < (l0.length : Int) := of_decide_eq_true (by first | (with_reducible assumption) | assumption)
                  obtain ⟨ad275, A275_2, c275_2, A275_3, c275_3, A275_4, c275_4, e275, hx275_0, hx275_1, hx275_2, hx275_3, hx275_4, hl275_2, hi275_2, hl275_3, hi275_3, hl275_4, hi275_4⟩ := at_T43 HR0.out x11_1 p275 q275
                  cases e275
                  replace hx275_0 := (HB.out.cell (World.block_lt_of_cell? w _ hx275_0)).trans hx275_0
                  replace hx275_1 := (HB.out.cell (World.block_lt_of_cell? w _ hx275_1)).trans hx275_1
                  replace hx275_2 := (HB.out.cell (World.block_lt_of_cell? w _ hx275_2)).trans hx275_2
                  replace hx275_3 := (HB.out.cell (World.block_lt_of_cell? w _ hx275_3)).trans hx275_3
                  replace hx275_4 := (HB.out.cell (World.block_lt_of_cell? w _ hx275_4)).trans hx275_4
                  have HR275_2 := Aside0.mk hi275_2
                  have HC275_2 := Aside0.mk hl275_2
                  clear hi275_2 hl275_2
                  have HR275_3 := Aside0.mk hi275_3
                  have HC275_3 := Aside0.mk hl275_3
                  clear hi275_3 hl275_3
                  have HR275_4 := Aside0.mk hi275_4
                  have HC275_4 := Aside0.mk hl275_4
                  clear hi275_4 hl275_4
                  replace p275 := eq_true p275
                  replace q275 := eq_true q275
                  go_wp2_with (first | ((with_reducible refine gate_dst (N := 6) rfl ?_); refine box_event ?hg (N := 6) ?hd (cs := #[.int .i64 0, .int .u32 0, .slice none 0 0, .slice none 0 0, .slice none 0 0]) (t := 43) ?hr ?_; (case hd => rfl); (case hg => rfl); (case hr => first | (go_simp; done) | (go_simp; rfl)); intro gb276 hg w17 hbox hb; have n0_ := Aside0.mk (below_step (by repeat (first | (with_reducible first | exact HB.out | apply below_alloc | apply pw_below_drewN | apply below_drew1) | exact HB.out)) hb); have n1_ := Aside0.mk (hbox); have n2_ := Aside0.mk ((by rw [hg]; exact (below_size (by repeat (first | (with_reducible first | exact HB.out | apply below_alloc | apply pw_below_drewN | apply below_drew1) | exact HB.out))) : w.heap.size ≤ gb276)); have n3_ := Aside0.mk ((by rw [hg]; exact (below_size (by repeat (first | (with_reducible first | exact HB.out | apply below_alloc | apply pw_below_drewN | apply below_drew1) | exact HB.out))) : w.heap.size ≤ gb276)); clear HB; have HB := n0_; have BK276 := n1_; have GW276 := n2_; have GE276 := n3_; clear n0_ n1_ n2_ n3_; clear hb hbox hg; have hcz18_0 : w17.cell? ⟨gb276, 0, none⟩ = some (.int .i64 0) := (blk_cell BK276.out 0).trans rfl; have hcz18_1 : w17.cell? ⟨gb276, 1, none⟩ = some (.int .u32 0) := (blk_cell BK276.out 1).trans rfl; have hcz18_2 : w17.cell? ⟨gb276, 2, none⟩ = some (.slice none 0 0) := (blk_cell BK276.out 2).trans rfl; have hcz18_3 : w17.cell? ⟨gb276, 3, none⟩ = some (.slice none 0 0) := (blk_cell BK276.out 3).trans rfl; have hcz18_4 : w17.cell? ⟨gb276, 4, none⟩ = some (.slice none 0 0) := (blk_cell BK276.out 4).trans rfl; have hfz18_0 := blk_frozen BK276.out 0; have hfz18_1 := blk_frozen BK276.out 1; have hfz18_2 := blk_frozen BK276.out 2; have hfz18_3 := blk_frozen BK276.out 3; have hfz18_4 := blk_frozen BK276.out 4) | ((with_reducible refine gate_callee (f := 104) rfl ?_); refine goesL_ (some 19) rfl rfl Tryd.func104 (by kernel_rfl) rfl #[.slice A275_2 ((rd_T43 l0 x11_1).f2).length c275_2, .string a1] rfl (by (try simp only [List.map_toArray, List.map_cons, List.map_nil]); first | done | rfl | (simp only [List.length_drop, List.length_take]; rfl)) ?_; (with_reducible refine (ledger_last.calls k1 _ _ ((rd_T43 l0 x11_1).f2) a1 t277 false t279 true _ ?side1 ?side2 A6.out).mono ?_); (case side1 => exact Kd.C_below HR275_2.out (by repeat (first | (with_reducible first | exact HB.out | apply below_alloc | apply pw_below_drewN | apply below_drew1 | refine below_set ?_ GE276.out) | exact HB.out))); (case side2 => exact HC275_2.out); rintro e w19 ⟨rfl, hb⟩; refine ⟨_, rfl, ?_⟩; have n0_ := Aside0.mk (blk_below (g := gb276) (o := .cells #[.int .i64 ((rd_T43 l0 x11_1).f0), .int .u32 ((rd_T43 l0 x11_1).f1), .slice A275_2 ((rd_T43 l0 x11_1).f2).length c275_2, .slice A275_3 ((rd_T43 l0 x11_1).f3).length c275_3, .slice A275_4 ((rd_T43 l0 x11_1).f4).length c275_4] 43 (0, 0)) (by (with_reducible repeat (first | refine blk_drewN ?_ _ | refine blk_drew ?_ | refine blk_alloc ?_ _)); refine blk_put (cs := #[.int .i64 ((rd_T43 l0 x11_1).f0), .int .u32 ((rd_T43 l0 x11_1).f1), .slice A275_2 ((rd_T43 l0 x11_1).f2).length c275_2, .slice A275_3 ((rd_T43 l0 x11_1).f3).length c275_3, .slice none 0 0]) ?_ 4 _ rfl; (with_reducible repeat (first | refine blk_drewN ?_ _ | refine blk_drew ?_ | refine blk_alloc ?_ _)); refine blk_put (cs := #[.int .i64 ((rd_T43 l0 x11_1).f0), .int .u32 ((rd_T43 l0 x11_1).f1), .slice A275_2 ((rd_T43 l0 x11_1).f2).length c275_2, .slice none 0 0, .slice none 0 0]) ?_ 3 _ rfl; (with_reducible repeat (first | refine blk_drewN ?_ _ | refine blk_drew ?_ | refine blk_alloc ?_ _)); refine blk_put (cs := #[.int .i64 ((rd_T43 l0 x11_1).f0), .int .u32 ((rd_T43 l0 x11_1).f1), .slice none 0 0, .slice none 0 0, .slice none 0 0]) ?_ 2 _ rfl; (with_reducible repeat (first | refine blk_drewN ?_ _ | refine blk_drew ?_ | refine blk_alloc ?_ _)); refine blk_put (cs := #[.int .i64 ((rd_T43 l0 x11_1).f0), .int .u32 0, .slice none 0 0, .slice none 0 0, .slice none 0 0]) ?_ 1 _ rfl; (with_reducible repeat (first | refine blk_drewN ?_ _ | refine blk_drew ?_ | refine blk_alloc ?_ _)); refine blk_put (cs := #[.int .i64 0, .int .u32 0, .slice none 0 0, .slice none 0 0, .slice none 0 0]) ?_ 0 _ rfl; (with_reducible repeat (first | refine blk_drewN ?_ _ | refine blk_drew ?_ | refine blk_alloc ?_ _)); exact BK276.out) hb); have n1_ := Aside0.mk (below_step (by repeat (first | (with_reducible first | exact HB.out | apply below_alloc | apply pw_below_drewN | apply below_drew1 | refine below_set ?_ GE276.out) | exact HB.out)) hb); clear BK276; clear HB; have BK276 := n0_; have HB := n1_; clear n0_ n1_; (try clear hb); (try clear hb2); (try clear hk); (try clear hi)) | ((with_reducible refine gate_dst (N := 7) rfl ?_); refine box_event ?hg (N := 7) ?hd (cs := #[.string (⟨#[]⟩ : ByteArray), .bool false, .string (⟨#[]⟩ : ByteArray)]) (t := 101) ?hr ?_; (case hd => rfl); (case hg => rfl); (case hr => first | (go_simp; done) | (go_simp; rfl)); intro gb281 hg w20 hbox hb; have n0_ := Aside0.mk (blk_below (g := gb276) (o := .cells #[.int .i64 ((rd_T43 l0 x11_1).f0), .int .u32 ((rd_T43 l0 x11_1).f1), .slice A275_2 ((rd_T43 l0 x11_1).f2).length c275_2, .slice A275_3 ((rd_T43 l0 x11_1).f3).length c275_3, .slice A275_4 ((rd_T43 l0 x11_1).f4).length c275_4] 43 (0, 0)) (by (with_reducible repeat (first | refine blk_drewN ?_ _ | refine blk_drew ?_ | refine blk_alloc ?_ _)); exact BK276.out) hb); have n1_ := Aside0.mk (below_step (by repeat (first | (with_reducible first | exact HB.out | apply below_alloc | apply pw_below_drewN | apply below_drew1 | refine below_set ?_ GE276.out) | exact HB.out)) hb); have n2_ := Aside0.mk (hbox); have n3_ := Aside0.mk ((by rw [hg]; exact (below_size (by repeat (first | (with_reducible first | exact HB.out | apply below_alloc | apply pw_below_drewN | apply below_drew1 | refine below_set ?_ GE276.out) | exact HB.out))) : w.heap.size ≤ gb281)); have n4_ := Aside0.mk ((by rw [hg]; exact (below_size (by repeat (first | (with_reducible first | exact HB.out | apply below_alloc | apply pw_below_drewN | apply below_drew1 | refine below_set ?_ GE276.out) | exact HB.out))) : w.heap.size ≤ gb281)); have n5_ := Aside0.mk ((by rw [hg]; exact Nat.ne_of_lt (blk_lt (g := gb276) (o := .cells #[.int .i64 ((rd_T43 l0 x11_1).f0), .int .u32 ((rd_T43 l0 x11_1).f1), .slice A275_2 ((rd_T43 l0 x11_1).f2).length c275_2, .slice A275_3 ((rd_T43 l0 x11_1).f3).length c275_3, .slice A275_4 ((rd_T43 l0 x11_1).f4).length c275_4] 43 (0, 0)) (by (with_reducible repeat (first | refine blk_drewN ?_ _ | refine blk_drew ?_ | refine blk_alloc ?_ _)); exact BK276.out)) : gb276 ≠ gb281)); have n6_ := Aside0.mk ((by rw [hg]; exact Nat.ne_of_gt (blk_lt (g := gb276) (o := .cells #[.int .i64 ((rd_T43 l0 x11_1).f0), .int .u32 ((rd_T43 l0 x11_1).f1), .slice A275_2 ((rd_T43 l0 x11_1).f2).length c275_2, .slice A275_3 ((rd_T43 l0 x11_1).f3).length c275_3, .slice A275_4 ((rd_T43 l0 x11_1).f4).length c275_4] 43 (0, 0)) (by (with_reducible repeat (first | refine blk_drewN ?_ _ | refine blk_drew ?_ | refine blk_alloc ?_ _)); exact BK276.out)) : gb281 ≠ gb276)); clear BK276; clear HB; have BK276 := n0_; have HB := n1_; have BK281 := n2_; have GW281 := n3_; have GE281 := n4_; have NB276_281 := n5_; have NB281_276 := n6_; clear n0_ n1_ n2_ n3_ n4_ n5_ n6_; clear hb hbox hg; have hnb21 := NB281_276.out; have hnc21 := NB276_281.out; have hcz22_0 : w20.cell? ⟨gb281, 0, none⟩ = some (.string (⟨#[]⟩ : ByteArray)) := (blk_cell BK281.out 0).trans rfl; have hcz22_1 : w20.cell? ⟨gb281, 1, none⟩ = some (.bool false) := (blk_cell BK281.out 1).trans rfl; have hcz22_2 : w20.cell? ⟨gb281, 2, none⟩ = some (.string (⟨#[]⟩ : ByteArray)) := (blk_cell BK281.out 2).trans rfl; have hfz22_0 := blk_frozen BK281.out 0; have hfz22_1 := blk_frozen BK281.out 1; have hfz22_2 := blk_frozen BK281.out 2; have hcz23_0 : w20.cell? ⟨gb276, 0, none⟩ = some (.int .i64 ((rd_T43 l0 x11_1).f0)) := (blk_cell BK276.out 0).trans rfl; have hcz23_1 : w20.cell? ⟨gb276, 1, none⟩ = some (.int .u32 ((rd_T43 l0 x11_1).f1)) := (blk_cell BK276.out 1).trans rfl; have hcz23_2 : w20.cell? ⟨gb276, 2, none⟩ = some (.slice A275_2 ((rd_T43 l0 x11_1).f2).length c275_2) := (blk_cell BK276.out 2).trans rfl; have hcz23_3 : w20.cell? ⟨gb276, 3, none⟩ = some (.slice A275_3 ((rd_T43 l0 x11_1).f3).length c275_3) := (blk_cell BK276.out 3).trans rfl; have hcz23_4 : w20.cell? ⟨gb276, 4, none⟩ = some (.slice A275_4 ((rd_T43 l0 x11_1).f4).length c275_4) := (blk_cell BK276.out 4).trans rfl; have hfz23_0 := blk_frozen BK276.out 0; have hfz23_1 := blk_frozen BK276.out 1; have hfz23_2 := blk_frozen BK276.out 2; have hfz23_3 := blk_frozen BK276.out 3; have hfz23_4 := blk_frozen BK276.out 4))
                  go_roundg k1
                  case measure => have := HK1.out; omega
                  case rel => exact ⟨(wrap64 (x11_1 + 1)), (by first | rfl | (simp; done) | (simp [*]; done)), H', ⟨by have := HK1.out; omega⟩, ⟨by repeat (first | (with_reducible first | exact HB.out | apply below_alloc | apply pw_below_drewN | apply below_drew1 | refine below_set ?_ GE276.out | refine below_set ?_ GE281.out) | exact HB.out)⟩⟩
              · replace c8 := Bool.eq_false_iff.mpr c8
                subst c8
                have H1 : (ledger_deleted.l0 k1 a1 l0 (l0.length : Int) (wrap64 (x11_1 + 1))) = some r := by rw [if_neg (show ¬ (false = true) by decide)] at H; exact H
                clear H
                have H := H1
                clear H1
                have H' := Aside0.mk H
                clear H
                have p275 : 0 ≤ (x11_1 : Int) := of_decide_eq_true (by first | (with_reducible assumption) | assumption)
                have q275 : x11_1 < (l0.length : Int) := of_decide_eq_true (by first | (with_reducible assumption) | assumption)
                obtain ⟨ad275, A275_2, c275_2, A275_3, c275_3, A275_4, c275_4, e275, hx275_0, hx275_1, hx275_2, hx275_3, hx275_4, hl275_2, hi275_2, hl275_3, hi275_3, hl275_4, hi275_4⟩ := at_T43 HR0.out x11_1 p275 q275
                cases e275
                replace hx275_0 := (HB.out.cell (World.block_lt_of_cell? w _ hx275_0)).trans hx275_0
                replace hx275_1 := (HB.out.cell (World.block_lt_of_cell? w _ hx275_1)).trans hx275_1
                replace hx275_2 := (HB.out.cell (World.block_lt_of_cell? w _ hx275_2)).trans hx275_2
                replace hx275_3 := (HB.out.cell (World.block_lt_of_cell? w _ hx275_3)).trans hx275_3
                replace hx275_4 := (HB.out.cell (World.block_lt_of_cell? w _ hx275_4)).trans hx275_4
                have HR275_2 := Aside0.mk hi275_2
                have HC275_2 := Aside0.mk hl275_2
                clear hi275_2 hl275_2
                have HR275_3 := Aside0.mk hi275_3
                have HC275_3 := Aside0.mk hl275_3
                clear hi275_3 hl275_3
                have HR275_4 := Aside0.mk hi275_4
                have HC275_4 := Aside0.mk hl275_4
                clear hi275_4 hl275_4
                replace p275 := eq_true p275
                replace q275 := eq_true q275
                go_wp2_with (first | ((with_reducible refine gate_dst (N := 6) rfl ?_); refine box_event ?hg (N := 6) ?hd (cs := #[.int .i64 0, .int .u32 0, .slice none 0 0, .slice none 0 0, .slice none 0 0]) (t := 43) ?hr ?_; (case hd => rfl); (case hg => rfl); (case hr => first | (go_simp; done) | (go_simp; rfl)); intro gb276 hg w24 hbox hb; have n0_ := Aside0.mk (below_step (by repeat (first | (with_reducible first | exact HB.out | apply below_alloc | apply pw_below_drewN | apply below_drew1) | exact HB.out)) hb); have n1_ := Aside0.mk (hbox); have n2_ := Aside0.mk ((by rw [hg]; exact (below_size (by repeat (first | (with_reducible first | exact HB.out | apply below_alloc | apply pw_below_drewN | apply below_drew1) | exact HB.out))) : w.heap.size ≤ gb276)); have n3_ := Aside0.mk ((by rw [hg]; exact (below_size (by repeat (first | (with_reducible first | exact HB.out | apply below_alloc | apply pw_below_drewN | apply below_drew1) | exact HB.out))) : w.heap.size ≤ gb276)); clear HB; have HB := n0_; have BK276 := n1_; have GW276 := n2_; have GE276 := n3_; clear n0_ n1_ n2_ n3_; clear hb hbox hg; have hcz25_0 : w24.cell? ⟨gb276, 0, none⟩ = some (.int .i64 0) := (blk_cell BK276.out 0).trans rfl; have hcz25_1 : w24.cell? ⟨gb276, 1, none⟩ = some (.int .u32 0) := (blk_cell BK276.out 1).trans rfl; have hcz25_2 : w24.cell? ⟨gb276, 2, none⟩ = some (.slice none 0 0) := (blk_cell BK276.out 2).trans rfl; have hcz25_3 : w24.cell? ⟨gb276, 3, none⟩ = some (.slice none 0 0) := (blk_cell BK276.out 3).trans rfl; have hcz25_4 : w24.cell? ⟨gb276, 4, none⟩ = some (.slice none 0 0) := (blk_cell BK276.out 4).trans rfl; have hfz25_0 := blk_frozen BK276.out 0; have hfz25_1 := blk_frozen BK276.out 1; have hfz25_2 := blk_frozen BK276.out 2; have hfz25_3 := blk_frozen BK276.out 3; have hfz25_4 := blk_frozen BK276.out 4) | ((with_reducible refine gate_callee (f := 104) rfl ?_); refine goesL_ (some 19) rfl rfl Tryd.func104 (by kernel_rfl) rfl #[.slice A275_2 ((rd_T43 l0 x11_1).f2).length c275_2, .string a1] rfl (by (try simp only [List.map_toArray, List.map_cons, List.map_nil]); first | done | rfl | (simp only [List.length_drop, List.length_take]; rfl)) ?_; (with_reducible refine (ledger_last.calls k1 _ _ ((rd_T43 l0 x11_1).f2) a1 t277 t278 t279 false _ ?side1 ?side2 A6.out).mono ?_); (case side1 => exact Kd.C_below HR275_2.out (by repeat (first | (with_reducible first | exact HB.out | apply below_alloc | apply pw_below_drewN | apply below_drew1 | refine below_set ?_ GE276.out) | exact HB.out))); (case side2 => exact HC275_2.out); rintro e w26 ⟨rfl, hb⟩; refine ⟨_, rfl, ?_⟩; have n0_ := Aside0.mk (blk_below (g := gb276) (o := .cells #[.int .i64 ((rd_T43 l0 x11_1).f0), .int .u32 ((rd_T43 l0 x11_1).f1), .slice A275_2 ((rd_T43 l0 x11_1).f2).length c275_2, .slice A275_3 ((rd_T43 l0 x11_1).f3).length c275_3, .slice A275_4 ((rd_T43 l0 x11_1).f4).length c275_4] 43 (0, 0)) (by (with_reducible repeat (first | refine blk_drewN ?_ _ | refine blk_drew ?_ | refine blk_alloc ?_ _)); refine blk_put (cs := #[.int .i64 ((rd_T43 l0 x11_1).f0), .int .u32 ((rd_T43 l0 x11_1).f1), .slice A275_2 ((rd_T43 l0 x11_1).f2).length c275_2, .slice A275_3 ((rd_T43 l0 x11_1).f3).length c275_3, .slice none 0 0]) ?_ 4 _ rfl; (with_reducible repeat (first | refine blk_drewN ?_ _ | refine blk_drew ?_ | refine blk_alloc ?_ _)); refine blk_put (cs := #[.int .i64 ((rd_T43 l0 x11_1).f0), .int .u32 ((rd_T43 l0 x11_1).f1), .slice A275_2 ((rd_T43 l0 x11_1).f2).length c275_2, .slice none 0 0, .slice none 0 0]) ?_ 3 _ rfl; (with_reducible repeat (first | refine blk_drewN ?_ _ | refine blk_drew ?_ | refine blk_alloc ?_ _)); refine blk_put (cs := #[.int .i64 ((rd_T43 l0 x11_1).f0), .int .u32 ((rd_T43 l0 x11_1).f1), .slice none 0 0, .slice none 0 0, .slice none 0 0]) ?_ 2 _ rfl; (with_reducible repeat (first | refine blk_drewN ?_ _ | refine blk_drew ?_ | refine blk_alloc ?_ _)); refine blk_put (cs := #[.int .i64 ((rd_T43 l0 x11_1).f0), .int .u32 0, .slice none 0 0, .slice none 0 0, .slice none 0 0]) ?_ 1 _ rfl; (with_reducible repeat (first | refine blk_drewN ?_ _ | refine blk_drew ?_ | refine blk_alloc ?_ _)); refine blk_put (cs := #[.int .i64 0, .int .u32 0, .slice none 0 0, .slice none 0 0, .slice none 0 0]) ?_ 0 _ rfl; (with_reducible repeat (first | refine blk_drewN ?_ _ | refine blk_drew ?_ | refine blk_alloc ?_ _)); exact BK276.out) hb); have n1_ := Aside0.mk (below_step (by repeat (first | (with_reducible first | exact HB.out | apply below_alloc | apply pw_below_drewN | apply below_drew1 | refine below_set ?_ GE276.out) | exact HB.out)) hb); clear BK276; clear HB; have BK276 := n0_; have HB := n1_; clear n0_ n1_; (try clear hb); (try clear hb2); (try clear hk); (try clear hi)) | ((with_reducible refine gate_dst (N := 7) rfl ?_); refine box_event ?hg (N := 7) ?hd (cs := #[.string (⟨#[]⟩ : ByteArray), .bool false, .string (⟨#[]⟩ : ByteArray)]) (t := 101) ?hr ?_; (case hd => rfl); (case hg => rfl); (case hr => first | (go_simp; done) | (go_simp; rfl)); intro gb281 hg w27 hbox hb; have n0_ := Aside0.mk (blk_below (g := gb276) (o := .cells #[.int .i64 ((rd_T43 l0 x11_1).f0), .int .u32 ((rd_T43 l0 x11_1).f1), .slice A275_2 ((rd_T43 l0 x11_1).f2).length c275_2, .slice A275_3 ((rd_T43 l0 x11_1).f3).length c275_3, .slice A275_4 ((rd_T43 l0 x11_1).f4).length c275_4] 43 (0, 0)) (by (with_reducible repeat (first | refine blk_drewN ?_ _ | refine blk_drew ?_ | refine blk_alloc ?_ _)); exact BK276.out) hb); have n1_ := Aside0.mk (below_step (by repeat (first | (with_reducible first | exact HB.out | apply below_alloc | apply pw_below_drewN | apply below_drew1 | refine below_set ?_ GE276.out) | exact HB.out)) hb); have n2_ := Aside0.mk (hbox); have n3_ := Aside0.mk ((by rw [hg]; exact (below_size (by repeat (first | (with_reducible first | exact HB.out | apply below_alloc | apply pw_below_drewN | apply below_drew1 | refine below_set ?_ GE276.out) | exact HB.out))) : w.heap.size ≤ gb281)); have n4_ := Aside0.mk ((by rw [hg]; exact (below_size (by repeat (first | (with_reducible first | exact HB.out | apply below_alloc | apply pw_below_drewN | apply below_drew1 | refine below_set ?_ GE276.out) | exact HB.out))) : w.heap.size ≤ gb281)); have n5_ := Aside0.mk ((by rw [hg]; exact Nat.ne_of_lt (blk_lt (g := gb276) (o := .cells #[.int .i64 ((rd_T43 l0 x11_1).f0), .int .u32 ((rd_T43 l0 x11_1).f1), .slice A275_2 ((rd_T43 l0 x11_1).f2).length c275_2, .slice A275_3 ((rd_T43 l0 x11_1).f3).length c275_3, .slice A275_4 ((rd_T43 l0 x11_1).f4).length c275_4] 43 (0, 0)) (by (with_reducible repeat (first | refine blk_drewN ?_ _ | refine blk_drew ?_ | refine blk_alloc ?_ _)); exact BK276.out)) : gb276 ≠ gb281)); have n6_ := Aside0.mk ((by rw [hg]; exact Nat.ne_of_gt (blk_lt (g := gb276) (o := .cells #[.int .i64 ((rd_T43 l0 x11_1).f0), .int .u32 ((rd_T43 l0 x11_1).f1), .slice A275_2 ((rd_T43 l0 x11_1).f2).length c275_2, .slice A275_3 ((rd_T43 l0 x11_1).f3).length c275_3, .slice A275_4 ((rd_T43 l0 x11_1).f4).length c275_4] 43 (0, 0)) (by (with_reducible repeat (first | refine blk_drewN ?_ _ | refine blk_drew ?_ | refine blk_alloc ?_ _)); exact BK276.out)) : gb281 ≠ gb276)); clear BK276; clear HB; have BK276 := n0_; have HB := n1_; have BK281 := n2_; have GW281 := n3_; have GE281 := n4_; have NB276_281 := n5_; have NB281_276 := n6_; clear n0_ n1_ n2_ n3_ n4_ n5_ n6_; clear hb hbox hg; have hnb28 := NB281_276.out; have hnc28 := NB276_281.out; have hcz29_0 : w27.cell? ⟨gb281, 0, none⟩ = some (.string (⟨#[]⟩ : ByteArray)) := (blk_cell BK281.out 0).trans rfl; have hcz29_1 : w27.cell? ⟨gb281, 1, none⟩ = some (.bool false) := (blk_cell BK281.out 1).trans rfl; have hcz29_2 : w27.cell? ⟨gb281, 2, none⟩ = some (.string (⟨#[]⟩ : ByteArray)) := (blk_cell BK281.out 2).trans rfl; have hfz29_0 := blk_frozen BK281.out 0; have hfz29_1 := blk_frozen BK281.out 1; have hfz29_2 := blk_frozen BK281.out 2; have hcz30_0 : w27.cell? ⟨gb276, 0, none⟩ = some (.int .i64 ((rd_T43 l0 x11_1).f0)) := (blk_cell BK276.out 0).trans rfl; have hcz30_1 : w27.cell? ⟨gb276, 1, none⟩ = some (.int .u32 ((rd_T43 l0 x11_1).f1)) := (blk_cell BK276.out 1).trans rfl; have hcz30_2 : w27.cell? ⟨gb276, 2, none⟩ = some (.slice A275_2 ((rd_T43 l0 x11_1).f2).length c275_2) := (blk_cell BK276.out 2).trans rfl; have hcz30_3 : w27.cell? ⟨gb276, 3, none⟩ = some (.slice A275_3 ((rd_T43 l0 x11_1).f3).length c275_3) := (blk_cell BK276.out 3).trans rfl; have hcz30_4 : w27.cell? ⟨gb276, 4, none⟩ = some (.slice A275_4 ((rd_T43 l0 x11_1).f4).length c275_4) := (blk_cell BK276.out 4).trans rfl; have hfz30_0 := blk_frozen BK276.out 0; have hfz30_1 := blk_frozen BK276.out 1; have hfz30_2 := blk_frozen BK276.out 2; have hfz30_3 := blk_frozen BK276.out 3; have hfz30_4 := blk_frozen BK276.out 4))
                go_roundg k1
                case measure => have := HK1.out; omega
                case rel => exact ⟨(wrap64 (x11_1 + 1)), (by first | rfl | (simp; done) | (simp [*]; done)), H', ⟨by have := HK1.out; omega⟩, ⟨by repeat (first | (with_reducible first | exact HB.out | apply below_alloc | apply pw_below_drewN | apply below_drew1 | refine below_set ?_ GE276.out | refine below_set ?_ GE281.out) | exact HB.out)⟩⟩
            · rw [if_neg c7] at H
              have c7b0 : (((rd_T43 l0 x11_1).f0) == 1) = false := beq_eq_false_iff_ne.mpr c7
              have c7b1 : (((rd_T43 l0 x11_1).f0) != 1) = true := bne_iff_ne.mpr c7
              have H' := Aside0.mk H
              clear H
              have p275 : 0 ≤ (x11_1 : Int) := of_decide_eq_true (by first | (with_reducible assumption) | assumption)
              have q275 : x11_1 < (l0.length : Int) := of_decide_eq_true (by first | (with_reducible assumption) | assumption)
              obtain ⟨ad275, A275_2, c275_2, A275_3, c275_3, A275_4, c275_4, e275, hx275_0, hx275_1, hx275_2, hx275_3, hx275_4, hl275_2, hi275_2, hl275_3, hi275_3, hl275_4, hi275_4⟩ := at_T43 HR0.out x11_1 p275 q275
              cases e275
              replace hx275_0 := (HB.out.cell (World.block_lt_of_cell? w _ hx275_0)).trans hx275_0
              replace hx275_1 := (HB.out.cell (World.block_lt_of_cell? w _ hx275_1)).trans hx275_1
              replace hx275_2 := (HB.out.cell (World.block_lt_of_cell? w _ hx275_2)).trans hx275_2
              replace hx275_3 := (HB.out.cell (World.block_lt_of_cell? w _ hx275_3)).trans hx275_3
              replace hx275_4 := (HB.out.cell (World.block_lt_of_cell? w _ hx275_4)).trans hx275_4
              have HR275_2 := Aside0.mk hi275_2
              have HC275_2 := Aside0.mk hl275_2
              clear hi275_2 hl275_2
              have HR275_3 := Aside0.mk hi275_3
              have HC275_3 := Aside0.mk hl275_3
              clear hi275_3 hl275_3
              have HR275_4 := Aside0.mk hi275_4
              have HC275_4 := Aside0.mk hl275_4
              clear hi275_4 hl275_4
              replace p275 := eq_true p275
              replace q275 := eq_true q275
              go_wp2_with (first | ((with_reducible refine gate_dst (N := 6) rfl ?_); refine box_event ?hg (N := 6) ?hd (cs := #[.int .i64 0, .int .u32 0, .slice none 0 0, .slice none 0 0, .slice none 0 0]) (t := 43) ?hr ?_; (case hd => rfl); (case hg => rfl); (case hr => first | (go_simp; done) | (go_simp; rfl)); intro gb276 hg w31 hbox hb; have n0_ := Aside0.mk (below_step (by repeat (first | (with_reducible first | exact HB.out | apply below_alloc | apply pw_below_drewN | apply below_drew1) | exact HB.out)) hb); have n1_ := Aside0.mk (hbox); have n2_ := Aside0.mk ((by rw [hg]; exact (below_size (by repeat (first | (with_reducible first | exact HB.out | apply below_alloc | apply pw_below_drewN | apply below_drew1) | exact HB.out))) : w.heap.size ≤ gb276)); have n3_ := Aside0.mk ((by rw [hg]; exact (below_size (by repeat (first | (with_reducible first | exact HB.out | apply below_alloc | apply pw_below_drewN | apply below_drew1) | exact HB.out))) : w.heap.size ≤ gb276)); clear HB; have HB := n0_; have BK276 := n1_; have GW276 := n2_; have GE276 := n3_; clear n0_ n1_ n2_ n3_; clear hb hbox hg; have hcz32_0 : w31.cell? ⟨gb276, 0, none⟩ = some (.int .i64 0) := (blk_cell BK276.out 0).trans rfl; have hcz32_1 : w31.cell? ⟨gb276, 1, none⟩ = some (.int .u32 0) := (blk_cell BK276.out 1).trans rfl; have hcz32_2 : w31.cell? ⟨gb276, 2, none⟩ = some (.slice none 0 0) := (blk_cell BK276.out 2).trans rfl; have hcz32_3 : w31.cell? ⟨gb276, 3, none⟩ = some (.slice none 0 0) := (blk_cell BK276.out 3).trans rfl; have hcz32_4 : w31.cell? ⟨gb276, 4, none⟩ = some (.slice none 0 0) := (blk_cell BK276.out 4).trans rfl; have hfz32_0 := blk_frozen BK276.out 0; have hfz32_1 := blk_frozen BK276.out 1; have hfz32_2 := blk_frozen BK276.out 2; have hfz32_3 := blk_frozen BK276.out 3; have hfz32_4 := blk_frozen BK276.out 4) | ((with_reducible refine gate_callee (f := 104) rfl ?_); refine goesL_ (some 19) rfl rfl Tryd.func104 (by kernel_rfl) rfl #[.slice A275_2 ((rd_T43 l0 x11_1).f2).length c275_2, .string a1] rfl (by (try simp only [List.map_toArray, List.map_cons, List.map_nil]); first | done | rfl | (simp only [List.length_drop, List.length_take]; rfl)) ?_; (with_reducible refine (ledger_last.calls k1 _ _ ((rd_T43 l0 x11_1).f2) a1 t277 t278 t279 t280 _ ?side1 ?side2 A6.out).mono ?_); (case side1 => exact Kd.C_below HR275_2.out (by repeat (first | (with_reducible first | exact HB.out | apply below_alloc | apply pw_below_drewN | apply below_drew1 | refine below_set ?_ GE276.out) | exact HB.out))); (case side2 => exact HC275_2.out); rintro e w33 ⟨rfl, hb⟩; refine ⟨_, rfl, ?_⟩; have n0_ := Aside0.mk (blk_below (g := gb276) (o := .cells #[.int .i64 ((rd_T43 l0 x11_1).f0), .int .u32 ((rd_T43 l0 x11_1).f1), .slice A275_2 ((rd_T43 l0 x11_1).f2).length c275_2, .slice A275_3 ((rd_T43 l0 x11_1).f3).length c275_3, .slice A275_4 ((rd_T43 l0 x11_1).f4).length c275_4] 43 (0, 0)) (by (with_reducible repeat (first | refine blk_drewN ?_ _ | refine blk_drew ?_ | refine blk_alloc ?_ _)); refine blk_put (cs := #[.int .i64 ((rd_T43 l0 x11_1).f0), .int .u32 ((rd_T43 l0 x11_1).f1), .slice A275_2 ((rd_T43 l0 x11_1).f2).length c275_2, .slice A275_3 ((rd_T43 l0 x11_1).f3).length c275_3, .slice none 0 0]) ?_ 4 _ rfl; (with_reducible repeat (first | refine blk_drewN ?_ _ | refine blk_drew ?_ | refine blk_alloc ?_ _)); refine blk_put (cs := #[.int .i64 ((rd_T43 l0 x11_1).f0), .int .u32 ((rd_T43 l0 x11_1).f1), .slice A275_2 ((rd_T43 l0 x11_1).f2).length c275_2, .slice none 0 0, .slice none 0 0]) ?_ 3 _ rfl; (with_reducible repeat (first | refine blk_drewN ?_ _ | refine blk_drew ?_ | refine blk_alloc ?_ _)); refine blk_put (cs := #[.int .i64 ((rd_T43 l0 x11_1).f0), .int .u32 ((rd_T43 l0 x11_1).f1), .slice none 0 0, .slice none 0 0, .slice none 0 0]) ?_ 2 _ rfl; (with_reducible repeat (first | refine blk_drewN ?_ _ | refine blk_drew ?_ | refine blk_alloc ?_ _)); refine blk_put (cs := #[.int .i64 ((rd_T43 l0 x11_1).f0), .int .u32 0, .slice none 0 0, .slice none 0 0, .slice none 0 0]) ?_ 1 _ rfl; (with_reducible repeat (first | refine blk_drewN ?_ _ | refine blk_drew ?_ | refine blk_alloc ?_ _)); refine blk_put (cs := #[.int .i64 0, .int .u32 0, .slice none 0 0, .slice none 0 0, .slice none 0 0]) ?_ 0 _ rfl; (with_reducible repeat (first | refine blk_drewN ?_ _ | refine blk_drew ?_ | refine blk_alloc ?_ _)); exact BK276.out) hb); have n1_ := Aside0.mk (below_step (by repeat (first | (with_reducible first | exact HB.out | apply below_alloc | apply pw_below_drewN | apply below_drew1 | refine below_set ?_ GE276.out) | exact HB.out)) hb); clear BK276; clear HB; have BK276 := n0_; have HB := n1_; clear n0_ n1_; (try clear hb); (try clear hb2); (try clear hk); (try clear hi)) | ((with_reducible refine gate_dst (N := 7) rfl ?_); refine box_event ?hg (N := 7) ?hd (cs := #[.string (⟨#[]⟩ : ByteArray), .bool false, .string (⟨#[]⟩ : ByteArray)]) (t := 101) ?hr ?_; (case hd => rfl); (case hg => rfl); (case hr => first | (go_simp; done) | (go_simp; rfl)); intro gb281 hg w34 hbox hb; have n0_ := Aside0.mk (blk_below (g := gb276) (o := .cells #[.int .i64 ((rd_T43 l0 x11_1).f0), .int .u32 ((rd_T43 l0 x11_1).f1), .slice A275_2 ((rd_T43 l0 x11_1).f2).length c275_2, .slice A275_3 ((rd_T43 l0 x11_1).f3).length c275_3, .slice A275_4 ((rd_T43 l0 x11_1).f4).length c275_4] 43 (0, 0)) (by (with_reducible repeat (first | refine blk_drewN ?_ _ | refine blk_drew ?_ | refine blk_alloc ?_ _)); exact BK276.out) hb); have n1_ := Aside0.mk (below_step (by repeat (first | (with_reducible first | exact HB.out | apply below_alloc | apply pw_below_drewN | apply below_drew1 | refine below_set ?_ GE276.out) | exact HB.out)) hb); have n2_ := Aside0.mk (hbox); have n3_ := Aside0.mk ((by rw [hg]; exact (below_size (by repeat (first | (with_reducible first | exact HB.out | apply below_alloc | apply pw_below_drewN | apply below_drew1 | refine below_set ?_ GE276.out) | exact HB.out))) : w.heap.size ≤ gb281)); have n4_ := Aside0.mk ((by rw [hg]; exact (below_size (by repeat (first | (with_reducible first | exact HB.out | apply below_alloc | apply pw_below_drewN | apply below_drew1 | refine below_set ?_ GE276.out) | exact HB.out))) : w.heap.size ≤ gb281)); have n5_ := Aside0.mk ((by rw [hg]; exact Nat.ne_of_lt (blk_lt (g := gb276) (o := .cells #[.int .i64 ((rd_T43 l0 x11_1).f0), .int .u32 ((rd_T43 l0 x11_1).f1), .slice A275_2 ((rd_T43 l0 x11_1).f2).length c275_2, .slice A275_3 ((rd_T43 l0 x11_1).f3).length c275_3, .slice A275_4 ((rd_T43 l0 x11_1).f4).length c275_4] 43 (0, 0)) (by (with_reducible repeat (first | refine blk_drewN ?_ _ | refine blk_drew ?_ | refine blk_alloc ?_ _)); exact BK276.out)) : gb276 ≠ gb281)); have n6_ := Aside0.mk ((by rw [hg]; exact Nat.ne_of_gt (blk_lt (g := gb276) (o := .cells #[.int .i64 ((rd_T43 l0 x11_1).f0), .int .u32 ((rd_T43 l0 x11_1).f1), .slice A275_2 ((rd_T43 l0 x11_1).f2).length c275_2, .slice A275_3 ((rd_T43 l0 x11_1).f3).length c275_3, .slice A275_4 ((rd_T43 l0 x11_1).f4).length c275_4] 43 (0, 0)) (by (with_reducible repeat (first | refine blk_drewN ?_ _ | refine blk_drew ?_ | refine blk_alloc ?_ _)); exact BK276.out)) : gb281 ≠ gb276)); clear BK276; clear HB; have BK276 := n0_; have HB := n1_; have BK281 := n2_; have GW281 := n3_; have GE281 := n4_; have NB276_281 := n5_; have NB281_276 := n6_; clear n0_ n1_ n2_ n3_ n4_ n5_ n6_; clear hb hbox hg; have hnb35 := NB281_276.out; have hnc35 := NB276_281.out; have hcz36_0 : w34.cell? ⟨gb281, 0, none⟩ = some (.string (⟨#[]⟩ : ByteArray)) := (blk_cell BK281.out 0).trans rfl; have hcz36_1 : w34.cell? ⟨gb281, 1, none⟩ = some (.bool false) := (blk_cell BK281.out 1).trans rfl; have hcz36_2 : w34.cell? ⟨gb281, 2, none⟩ = some (.string (⟨#[]⟩ : ByteArray)) := (blk_cell BK281.out 2).trans rfl; have hfz36_0 := blk_frozen BK281.out 0; have hfz36_1 := blk_frozen BK281.out 1; have hfz36_2 := blk_frozen BK281.out 2; have hcz37_0 : w34.cell? ⟨gb276, 0, none⟩ = some (.int .i64 ((rd_T43 l0 x11_1).f0)) := (blk_cell BK276.out 0).trans rfl; have hcz37_1 : w34.cell? ⟨gb276, 1, none⟩ = some (.int .u32 ((rd_T43 l0 x11_1).f1)) := (blk_cell BK276.out 1).trans rfl; have hcz37_2 : w34.cell? ⟨gb276, 2, none⟩ = some (.slice A275_2 ((rd_T43 l0 x11_1).f2).length c275_2) := (blk_cell BK276.out 2).trans rfl; have hcz37_3 : w34.cell? ⟨gb276, 3, none⟩ = some (.slice A275_3 ((rd_T43 l0 x11_1).f3).length c275_3) := (blk_cell BK276.out 3).trans rfl; have hcz37_4 : w34.cell? ⟨gb276, 4, none⟩ = some (.slice A275_4 ((rd_T43 l0 x11_1).f4).length c275_4) := (blk_cell BK276.out 4).trans rfl; have hfz37_0 := blk_frozen BK276.out 0; have hfz37_1 := blk_frozen BK276.out 1; have hfz37_2 := blk_frozen BK276.out 2; have hfz37_3 := blk_frozen BK276.out 3; have hfz37_4 := blk_frozen BK276.out 4))
              go_roundg k1
              case measure => have := HK1.out; omega
              case rel => exact ⟨(wrap64 (x11_1 + 1)), (by first | rfl | (simp; done) | (simp [*]; done)), H', ⟨by have := HK1.out; omega⟩, ⟨by repeat (first | (with_reducible first | exact HB.out | apply below_alloc | apply pw_below_drewN | apply below_drew1 | refine below_set ?_ GE276.out | refine below_set ?_ GE281.out) | exact HB.out)⟩⟩
          · rw [if_neg c5] at H
            exact absurd H (by simp)
        · rw [if_neg c4] at H
          exact absurd H (by simp)
      · rw [if_neg c3] at H
        have c3b0 : decide (x11_1 < (l0.length : Int)) = false := decide_eq_false c3
        clear c3
        obtain rfl := Option.some.inj H
        go_wp2
        go_ret
        exact ⟨by first | rfl | (simp [errW_none, errW_some] <;> rfl) | (simp [*, errW_none, errW_some] <;> rfl), by repeat (first | (with_reducible first | exact HB.out | apply below_alloc | apply pw_below_drewN | apply below_drew1) | exact HB.out)⟩
def cachepotref3_committed.l0 : Nat → List (S43) → Int → Int → Option (Int)
  | 0, _, _, _ => none
  | k + 1, x0, x1, x7 => if x7 ≥ 0 then (if 0 ≤ x7 then (if x7 < (x0.length : Int) then (if ((rd_T43 x0 x7).f0) = 1 then (if ((rd_T43 x0 x7).f1) = x1 then (some x7) else (cachepotref3_committed.l0 k x0 x1 (wrap64 (x7 - 1)))) else (cachepotref3_committed.l0 k x0 x1 (wrap64 (x7 - 1)))) else (none)) else (none)) else (some (-1))
def cachepotref3_committed.f (k : Nat) (l0 : List (S43)) (a1 : Int) (a2 : Int) : Option (Int) := cachepotref3_committed.l0 k l0 a1 (wrap64 (a2 - 1))
end Go.Proofs.YtfaelejeihmgcaaDoor.Lgx
end

section
namespace Go.Proofs.YtfaelejeihmgcaaDoor.Lgx
open Go.RowKit Go.Proofs.YtfaelejeihmgcaaDoorW.PrintWords Go.Proofs.YtfaelejeihmgcaaDoorW.PrintLast Go.Proofs.YtfaelejeihmgcaaDoorW.PrintMore
attribute [local go_sem] max2_int min2_int max_two min_two max_three min_three max_four min_four   -- for this text's walks alone
set_option linter.unusedVariables false
set_option linter.unusedSimpArgs false
def cachepotref1_BatchFind.l0 : Nat → List (S101) → ByteArray → Int → Option (ByteArray × Bool × ByteArray × Bool)
  | 0, _, _, _ => none
  | k + 1, x0, x1, x6 => if x6 ≥ 0 then (if 0 ≤ x6 then (if x6 < (x0.length : Int) then (if ((rd_T101 x0 x6).f0).toList = x1.toList then (some ((rd_T101 x0 x6).f0, (rd_T101 x0 x6).f1, (rd_T101 x0 x6).f2, true)) else (cachepotref1_BatchFind.l0 k x0 x1 (wrap64 (x6 - 1)))) else (none)) else (none)) else (some ((⟨#[]⟩ : ByteArray), false, (⟨#[]⟩ : ByteArray), false))
def cachepotref1_BatchFind.f (k : Nat) (l0 : List (S101)) (a1 : ByteArray) : Option (ByteArray × Bool × ByteArray × Bool) := cachepotref1_BatchFind.l0 k l0 a1 (wrap64 ((l0.length : Int) - 1))
set_option maxHeartbeats 8000000 in
set_option maxRecDepth 100000 in
theorem cachepotref1_BatchFind.calls (k : Nat) (A0 : Option Addr) (c0 : Nat) (l0 : List (S101)) (a1 : ByteArray) (r1 : ByteArray) (r2 : Bool) (r3 : ByteArray) (r4 : Bool) (w : World) (hr0 : Kd.C k101 w A0 l0.length l0) (hc0 : l0.length ≤ c0) (h : cachepotref1_BatchFind.f k l0 a1 = some (r1, r2, r3, r4)) :
    Calls Tryd.prog 107 #[.slice A0 l0.length c0, .string a1] w fun e w' => e = .returned (.tuple #[.agg #[.string r1, .bool r2, .string r3], .bool r4]) ∧ Below w.heap.size w w' := by
  have hu101 := Tryd.underlying101
  have HR0 := Aside0.mk hr0
  have HC0 := Aside0.mk hc0
  clear hr0 hc0
  have HB := Aside0.mk (Below.refl w.heap.size w)
  have H : (cachepotref1_BatchFind.l0 k l0 a1 (wrap64 ((l0.length : Int) - 1))) = some (r1, r2, r3, r4) := h
  clear h
  have H' := Aside0.mk H
  clear H
  go_enter Tryd.func107, Tryd.ntmps107
  go_wp2_with (first | ((with_reducible refine gate_dst (N := 4) rfl ?_); refine box_event ?hg (N := 4) ?hd (cs := #[.string (⟨#[]⟩ : ByteArray), .bool false, .string (⟨#[]⟩ : ByteArray)]) (t := 101) ?hr ?_; (case hd => rfl); (case hg => rfl); (case hr => first | (go_simp; done) | (go_simp; rfl)); intro gb215 hg w3 hbox hb; have n0_ := Aside0.mk (below_step (by repeat (first | (with_reducible first | exact HB.out | apply below_alloc | apply pw_below_drewN | apply below_drew1) | exact HB.out)) hb); have n1_ := Aside0.mk (hbox); have n2_ := Aside0.mk ((by rw [hg]; exact (below_size (by repeat (first | (with_reducible first | exact HB.out | apply below_alloc | apply pw_below_drewN | apply below_drew1) | exact HB.out))) : w.heap.size ≤ gb215)); have n3_ := Aside0.mk ((by rw [hg]; exact (below_size (by repeat (first | (with_reducible first | exact HB.out | apply below_alloc | apply pw_below_drewN | apply below_drew1) | exact HB.out))) : w.heap.size ≤ gb215)); clear HB; have HB := n0_; have BK215 := n1_; have GW215 := n2_; have GE215 := n3_; clear n0_ n1_ n2_ n3_; clear hb hbox hg))
  go_loopg [6] k (fun kq v6 w' => ∃ (x6_1 : Int) (x216000_1 : ByteArray) (x216001_1 : Bool) (x216002_1 : ByteArray), v6 = .int .i64 x6_1 ∧ Aside0 (cachepotref1_BatchFind.l0 kq l0 a1 x6_1 = some (r1, r2, r3, r4)) ∧ Aside0 (kq ≤ k) ∧ Aside0 (w'.heap[gb215]? = some (.cells #[.string x216000_1, .bool x216001_1, .string x216002_1] 101 (0, 0))) ∧ Aside0 (Below w.heap.size w w'))
  case atStart => exact ⟨(wrap64 ((l0.length : Int) - 1)), ((⟨#[]⟩ : ByteArray)), (false), ((⟨#[]⟩ : ByteArray)), (by first | rfl | (simp; done) | (simp [*]; done)), H', ⟨Nat.le_refl _⟩, ⟨by (with_reducible repeat (first | refine blk_drewN ?_ _ | refine blk_drew ?_ | refine blk_alloc ?_ _)); exact BK215.out⟩, ⟨by repeat (first | (with_reducible first | exact HB.out | apply below_alloc | apply pw_below_drewN | apply below_drew1 | refine below_set ?_ GE215.out) | exact HB.out)⟩⟩
  case round =>
    clear H'
    try clear c1
    try clear p2
    obtain ⟨x6_1, x216000_1, x216001_1, x216002_1, rfl, HA, HK1, BK215, HB⟩ := hrel
    cases gk with
    | zero => exact absurd HA.out (by simp [cachepotref1_BatchFind.l0])
    | succ k1 =>
      have H := HA.out
      clear HA
      simp only [cachepotref1_BatchFind.l0] at H
      by_cases c4 : x6_1 ≥ 0
      · rw [if_pos c4] at H
        have c4b0 : decide (0 ≤ x6_1) = true := decide_eq_true c4
        clear c4
        by_cases c5 : 0 ≤ x6_1
        · rw [if_pos c5] at H
          have c5b0 : decide (0 ≤ x6_1) = true := decide_eq_true c5
          clear c5
          by_cases c6 : x6_1 < (l0.length : Int)
          · rw [if_pos c6] at H
            have c6b0 : decide (x6_1 < (l0.length : Int)) = true := decide_eq_true c6
            clear c6
            by_cases c7 : ((rd_T101 l0 x6_1).f0).toList = a1.toList
            · rw [if_pos c7] at H
              have c7b0 : (((rd_T101 l0 x6_1).f0).toList == a1.toList) = true := beq_iff_eq.mpr c7
              have c7b1 : (((rd_T101 l0 x6_1).f0).toList != a1.toList) = false := bne_eq_false_iff_eq.mpr c7
              clear c7
              simp only [Option.some.injEq, Prod.mk.injEq] at H
              obtain ⟨rfl, rfl, rfl, rfl⟩ := H
              have p216 : 0 ≤ (x6_1 : Int) := of_decide_eq_true (by first | (with_reducible assumption) | assumption)
              have q216 : x6_1 < (l0.length : Int) := of_decide_eq_true (by first | (with_reducible assumption) | assumption)
              obtain ⟨ad216, e216, hx216_0, hx216_1, hx216_2⟩ := at_T101 HR0.out x6_1 p216 q216
              cases e216
              replace hx216_0 := (HB.out.cell (World.block_lt_of_cell? w _ hx216_0)).trans hx216_0
              replace hx216_1 := (HB.out.cell (World.block_lt_of_cell? w _ hx216_1)).trans hx216_1
              replace hx216_2 := (HB.out.cell (World.block_lt_of_cell? w _ hx216_2)).trans hx216_2
              replace p216 := eq_true p216
              replace q216 := eq_true q216
              have p217 : 0 ≤ (x6_1 : Int) := of_decide_eq_true (by first | (with_reducible assumption) | assumption)
              have q217 : x6_1 < (l0.length : Int) := of_decide_eq_true (by first | (with_reducible assumption) | assumption)
              obtain ⟨ad217, e217, hx217_0, hx217_1, hx217_2⟩ := at_T101 HR0.out x6_1 p217 q217
              obtain rfl : ad216 = ad217 := (by injection e217)
              replace hx217_0 := (HB.out.cell (World.block_lt_of_cell? w _ hx217_0)).trans hx217_0
              replace hx217_1 := (HB.out.cell (World.block_lt_of_cell? w _ hx217_1)).trans hx217_1
              replace hx217_2 := (HB.out.cell (World.block_lt_of_cell? w _ hx217_2)).trans hx217_2
              replace p217 := eq_true p217
              replace q217 := eq_true q217
              have hcz8_0 : wr.cell? ⟨gb215, 0, none⟩ = some (.string x216000_1) := (blk_cell BK215.out 0).trans rfl
              have hcz8_1 : wr.cell? ⟨gb215, 1, none⟩ = some (.bool x216001_1) := (blk_cell BK215.out 1).trans rfl
              have hcz8_2 : wr.cell? ⟨gb215, 2, none⟩ = some (.string x216002_1) := (blk_cell BK215.out 2).trans rfl
              have hfz8_0 := blk_frozen BK215.out 0
              have hfz8_1 := blk_frozen BK215.out 1
              have hfz8_2 := blk_frozen BK215.out 2
              go_wp2
              refine bodyPost_ret (results_ct rfl _ _ gb215 101 #[.string ((rd_T101 l0 x6_1).f0), .bool ((rd_T101 l0 x6_1).f1), .string ((rd_T101 l0 x6_1).f2)] (0, 0) _ rfl (by (with_reducible repeat (first | refine blk_drewN ?_ _ | refine blk_drew ?_ | refine blk_alloc ?_ _)); refine blk_put (cs := #[.string ((rd_T101 l0 x6_1).f0), .bool ((rd_T101 l0 x6_1).f1), .string x216002_1]) ?_ 2 _ rfl; (with_reducible repeat (first | refine blk_drewN ?_ _ | refine blk_drew ?_ | refine blk_alloc ?_ _)); refine blk_put (cs := #[.string ((rd_T101 l0 x6_1).f0), .bool x216001_1, .string x216002_1]) ?_ 1 _ rfl; (with_reducible repeat (first | refine blk_drewN ?_ _ | refine blk_drew ?_ | refine blk_alloc ?_ _)); refine blk_put (cs := #[.string x216000_1, .bool x216001_1, .string x216002_1]) ?_ 0 _ rfl; (with_reducible repeat (first | refine blk_drewN ?_ _ | refine blk_drew ?_ | refine blk_alloc ?_ _)); exact BK215.out) Tryd.underlying101 rfl (by kernel_rfl)) rfl ?_
              exact ⟨by first | rfl | (simp [errW_none, errW_some] <;> rfl) | (simp [*, errW_none, errW_some] <;> rfl), by repeat (first | (with_reducible first | exact HB.out | apply below_alloc | apply pw_below_drewN | apply below_drew1 | refine below_set ?_ GE215.out) | exact HB.out)⟩
            · rw [if_neg c7] at H
              have c7b0 : (((rd_T101 l0 x6_1).f0).toList == a1.toList) = false := beq_eq_false_iff_ne.mpr c7
              have c7b1 : (((rd_T101 l0 x6_1).f0).toList != a1.toList) = true := bne_iff_ne.mpr c7
              have H' := Aside0.mk H
              clear H
              have p216 : 0 ≤ (x6_1 : Int) := of_decide_eq_true (by first | (with_reducible assumption) | assumption)
              have q216 : x6_1 < (l0.length : Int) := of_decide_eq_true (by first | (with_reducible assumption) | assumption)
              obtain ⟨ad216, e216, hx216_0, hx216_1, hx216_2⟩ := at_T101 HR0.out x6_1 p216 q216
              cases e216
              replace hx216_0 := (HB.out.cell (World.block_lt_of_cell? w _ hx216_0)).trans hx216_0
              replace hx216_1 := (HB.out.cell (World.block_lt_of_cell? w _ hx216_1)).trans hx216_1
              replace hx216_2 := (HB.out.cell (World.block_lt_of_cell? w _ hx216_2)).trans hx216_2
              replace p216 := eq_true p216
              replace q216 := eq_true q216
              go_wp2
              go_roundg k1
              case measure => have := HK1.out; omega
              case rel => exact ⟨(wrap64 (x6_1 - 1)), (x216000_1), (x216001_1), (x216002_1), (by first | rfl | (simp; done) | (simp [*]; done)), H', ⟨by have := HK1.out; omega⟩, ⟨by (with_reducible repeat (first | refine blk_drewN ?_ _ | refine blk_drew ?_ | refine blk_alloc ?_ _)); exact BK215.out⟩, ⟨by repeat (first | (with_reducible first | exact HB.out | apply below_alloc | apply pw_below_drewN | apply below_drew1 | refine below_set ?_ GE215.out) | exact HB.out)⟩⟩
          · rw [if_neg c6] at H
            exact absurd H (by simp)
        · rw [if_neg c5] at H
          exact absurd H (by simp)
      · rw [if_neg c4] at H
        have c4b0 : decide (0 ≤ x6_1) = false := decide_eq_false c4
        clear c4
        simp only [Option.some.injEq, Prod.mk.injEq] at H
        obtain ⟨rfl, rfl, rfl, rfl⟩ := H
        have hcz9_0 : wr.cell? ⟨gb215, 0, none⟩ = some (.string x216000_1) := (blk_cell BK215.out 0).trans rfl
        have hcz9_1 : wr.cell? ⟨gb215, 1, none⟩ = some (.bool x216001_1) := (blk_cell BK215.out 1).trans rfl
        have hcz9_2 : wr.cell? ⟨gb215, 2, none⟩ = some (.string x216002_1) := (blk_cell BK215.out 2).trans rfl
        have hfz9_0 := blk_frozen BK215.out 0
        have hfz9_1 := blk_frozen BK215.out 1
        have hfz9_2 := blk_frozen BK215.out 2
        go_wp2
        refine bodyPost_ret (results_ct rfl _ _ gb215 101 #[.string (⟨#[]⟩ : ByteArray), .bool false, .string (⟨#[]⟩ : ByteArray)] (0, 0) _ rfl (by (with_reducible repeat (first | refine blk_drewN ?_ _ | refine blk_drew ?_ | refine blk_alloc ?_ _)); refine blk_put (cs := #[.string (⟨#[]⟩ : ByteArray), .bool false, .string x216002_1]) ?_ 2 _ rfl; (with_reducible repeat (first | refine blk_drewN ?_ _ | refine blk_drew ?_ | refine blk_alloc ?_ _)); refine blk_put (cs := #[.string (⟨#[]⟩ : ByteArray), .bool x216001_1, .string x216002_1]) ?_ 1 _ rfl; (with_reducible repeat (first | refine blk_drewN ?_ _ | refine blk_drew ?_ | refine blk_alloc ?_ _)); refine blk_put (cs := #[.string x216000_1, .bool x216001_1, .string x216002_1]) ?_ 0 _ rfl; (with_reducible repeat (first | refine blk_drewN ?_ _ | refine blk_drew ?_ | refine blk_alloc ?_ _)); exact BK215.out) Tryd.underlying101 rfl (by kernel_rfl)) rfl ?_
        exact ⟨by first | rfl | (simp [errW_none, errW_some] <;> rfl) | (simp [*, errW_none, errW_some] <;> rfl), by repeat (first | (with_reducible first | exact HB.out | apply below_alloc | apply pw_below_drewN | apply below_drew1 | refine below_set ?_ GE215.out) | exact HB.out)⟩
def cachepotref1_follows.f (a0 : ByteArray) (a1 : Int) (a2 : Int) (a3 : Int) : Option (Bool) := if a1 < (a0.size : Int) then (if 0 ≤ a1 then (if (bt a0 a1) ≥ a2 then (some (decide ((bt a0 a1) ≤ a3))) else (some false)) else (none)) else (some false)
set_option maxHeartbeats 8000000 in
set_option maxRecDepth 100000 in
theorem cachepotref1_follows.calls (a0 : ByteArray) (a1 : Int) (a2 : Int) (a3 : Int) (r : Bool) (w : World) (h : cachepotref1_follows.f a0 a1 a2 a3 = some r) :
    Calls Tryd.prog 95 #[.string a0, .int .i64 a1, .int .u8 a2, .int .u8 a3] w fun e w' => e = .returned (.bool r) ∧ Drawn0 w w' := by
  have H : (if a1 < (a0.size : Int) then (if 0 ≤ a1 then (if (bt a0 a1) ≥ a2 then (some (decide ((bt a0 a1) ≤ a3))) else (some false)) else (none)) else (some false)) = some r := h
  clear h
  by_cases c5 : a1 < (a0.size : Int)
  · rw [if_pos c5] at H
    have c5b0 : decide (a1 < (a0.size : Int)) = true := decide_eq_true c5
    clear c5
    by_cases c6 : 0 ≤ a1
    · rw [if_pos c6] at H
      have c6b0 : decide (0 ≤ a1) = true := decide_eq_true c6
      clear c6
      by_cases c8 : (bt a0 a1) ≥ a2
      · rw [if_pos c8] at H
        have c8b0 : decide (a2 ≤ (bt a0 a1)) = true := decide_eq_true c8
        clear c8
        obtain rfl := Option.some.inj H
        have p7 : 0 ≤ (a1 : Int) := of_decide_eq_true (by first | (with_reducible assumption) | assumption)
        have q7 : a1 < (a0.size : Int) := of_decide_eq_true (by first | (with_reducible assumption) | assumption)
        have hx7 := bt_at a0 a1
        replace p7 := eq_true p7
        replace q7 := eq_true q7
        have p9 : 0 ≤ (a1 : Int) := of_decide_eq_true (by first | (with_reducible assumption) | assumption)
        have q9 : a1 < (a0.size : Int) := of_decide_eq_true (by first | (with_reducible assumption) | assumption)
        have hx9 := bt_at a0 a1
        replace p9 := eq_true p9
        replace q9 := eq_true q9
        go_enter Tryd.func95, Tryd.ntmps95
        go_wp2
        go_ret
        exact ⟨by first | rfl | (simp; done) | (simp [*]; done), by repeat (first | exact Drawn0.refl _ | apply Drawn0.step)⟩
      · rw [if_neg c8] at H
        have c8b0 : decide (a2 ≤ (bt a0 a1)) = false := decide_eq_false c8
        clear c8
        obtain rfl := Option.some.inj H
        have p7 : 0 ≤ (a1 : Int) := of_decide_eq_true (by first | (with_reducible assumption) | assumption)
        have q7 : a1 < (a0.size : Int) := of_decide_eq_true (by first | (with_reducible assumption) | assumption)
        have hx7 := bt_at a0 a1
        replace p7 := eq_true p7
        replace q7 := eq_true q7
        go_enter Tryd.func95, Tryd.ntmps95
        go_wp2
        go_ret
        exact ⟨by first | rfl | (simp; done) | (simp [*]; done), by repeat (first | exact Drawn0.refl _ | apply Drawn0.step)⟩
    · rw [if_neg c6] at H
      exact absurd H (by simp)
  · rw [if_neg c5] at H
    have c5b0 : decide (a1 < (a0.size : Int)) = false := decide_eq_false c5
    clear c5
    obtain rfl := Option.some.inj H
    go_enter Tryd.func95, Tryd.ntmps95
    go_wp2
    go_ret
    exact ⟨by first | rfl | (simp; done) | (simp [*]; done), by repeat (first | exact Drawn0.refl _ | apply Drawn0.step)⟩
end Go.Proofs.YtfaelejeihmgcaaDoor.Lgx
end

section
namespace Go.Proofs.YtfaelejeihmgcaaDoor.Lgx
open Go.RowKit Go.Proofs.YtfaelejeihmgcaaDoorW.PrintWords Go.Proofs.YtfaelejeihmgcaaDoorW.PrintLast Go.Proofs.YtfaelejeihmgcaaDoorW.PrintMore
attribute [local go_sem] max2_int min2_int max_two min_two max_three min_three max_four min_four   -- for this text's walks alone
set_option linter.unusedVariables false
set_option linter.unusedSimpArgs false
def cachepotref3_later.l0 : Nat → List (S43) → Int → Int → ByteArray → Bool → ByteArray → Int → Option (Bool)
  | 0, _, _, _, _, _, _, _ => none
  | k + 1, x0, x3, x9, x285000, x285001, x285002, x285003 => if x9 < x3 then (if 0 ≤ x9 then (if x9 < (x0.length : Int) then (if ((rd_T43 x0 x9).f0) = 1 then (if x285001 = true then (if ((rd_T43 x0 x9).f1) = x285003 then (some true) else (cachepotref3_later.l0 k x0 x3 (wrap64 (x9 + 1)) x285000 x285001 x285002 x285003)) else ((cachepotref1_BatchFind.f k ((rd_T43 x0 x9).f2) x285000).bind fun bt288 => (if bt288.2.2.2 = true then (if bt288.2.1 = true then (some true) else (cachepotref3_later.l0 k x0 x3 (wrap64 (x9 + 1)) x285000 x285001 x285002 x285003)) else (cachepotref3_later.l0 k x0 x3 (wrap64 (x9 + 1)) x285000 x285001 x285002 x285003)))) else (cachepotref3_later.l0 k x0 x3 (wrap64 (x9 + 1)) x285000 x285001 x285002 x285003)) else (none)) else (none)) else (some false)
def cachepotref3_later.f (k : Nat) (l0 : List (S43)) (a1_0 : ByteArray) (a1_1 : Bool) (a1_2 : ByteArray) (a1_3 : Int) (a2 : Int) (a3 : Int) : Option (Bool) := cachepotref3_later.l0 k l0 a3 a2 a1_0 a1_1 a1_2 a1_3
end Go.Proofs.YtfaelejeihmgcaaDoor.Lgx
end

section
namespace Go.Proofs.YtfaelejeihmgcaaDoor.Lgx
open Go.RowKit Go.Proofs.YtfaelejeihmgcaaDoorW.PrintWords Go.Proofs.YtfaelejeihmgcaaDoorW.PrintLast Go.Proofs.YtfaelejeihmgcaaDoorW.PrintMore
attribute [local go_sem] max2_int min2_int max_two min_two max_three min_three max_four min_four   -- for this text's walks alone
set_option linter.unusedVariables false
set_option linter.unusedSimpArgs false
def cachepotbook_Pick.f (a0 : Int) (a1 : Int) : Option (Int) := if a1 = 0 then (none) else (if (Int.tmod a0 a1) < 0 then (some (wrap64 ((Int.tmod a0 a1) + a1))) else (some (Int.tmod a0 a1)))
set_option maxHeartbeats 8000000 in
set_option maxRecDepth 100000 in
theorem cachepotbook_Pick.calls (a0 : Int) (a1 : Int) (r : Int) (w : World) (h : cachepotbook_Pick.f a0 a1 = some r) :
    Calls Tryd.prog 25 #[.int .i64 a0, .int .i64 a1] w fun e w' => e = .returned (.int .i64 r) ∧ Drawn0 w w' := by
  have H : (if a1 = 0 then (none) else (if (Int.tmod a0 a1) < 0 then (some (wrap64 ((Int.tmod a0 a1) + a1))) else (some (Int.tmod a0 a1)))) = some r := h
  clear h
  by_cases c3 : a1 = 0
  · rw [if_pos c3] at H
    exact absurd H (by simp)
  · rw [if_neg c3] at H
    have c3b0 : (a1 == 0) = false := beq_eq_false_iff_ne.mpr c3
    have c3b1 : (a1 != 0) = true := bne_iff_ne.mpr c3
    by_cases c4 : (Int.tmod a0 a1) < 0
    · rw [if_pos c4] at H
      have c4b0 : decide ((Int.tmod a0 a1) < 0) = true := decide_eq_true c4
      clear c4
      obtain rfl := Option.some.inj H
      go_enter Tryd.func25, Tryd.ntmps25
      go_wp2
      go_ret
      exact ⟨by first | rfl | (simp; done) | (simp [*]; done), by repeat (first | exact Drawn0.refl _ | apply Drawn0.step)⟩
    · rw [if_neg c4] at H
      have c4b0 : decide ((Int.tmod a0 a1) < 0) = false := decide_eq_false c4
      clear c4
      obtain rfl := Option.some.inj H
      go_enter Tryd.func25, Tryd.ntmps25
      go_wp2
      go_ret
      exact ⟨by first | rfl | (simp; done) | (simp [*]; done), by repeat (first | exact Drawn0.refl _ | apply Drawn0.step)⟩
def cachepotbook_Short.f (a0 : ByteArray) (a1 : Int) : Option (ByteArray) := if 0 ≤ (mn (a0.size : Int) a1) then (if (mn (a0.size : Int) a1) ≤ (a0.size : Int) then (some (a0.extract 0 ((mn (a0.size : Int) a1) : Int).toNat)) else (none)) else (none)
set_option maxHeartbeats 8000000 in
set_option maxRecDepth 100000 in
theorem cachepotbook_Short.calls (a0 : ByteArray) (a1 : Int) (r : ByteArray) (w : World) (h : cachepotbook_Short.f a0 a1 = some r) :
    Calls Tryd.prog 27 #[.string a0, .int .i64 a1] w fun e w' => e = .returned (.string r) ∧ Below w.heap.size w w' := by
  have HB := Aside0.mk (Below.refl w.heap.size w)
  have H : (if 0 ≤ (mn (a0.size : Int) a1) then (if (mn (a0.size : Int) a1) ≤ (a0.size : Int) then (some (a0.extract 0 ((mn (a0.size : Int) a1) : Int).toNat)) else (none)) else (none)) = some r := h
  clear h
  obtain ⟨ji3, hji3⟩ : ∃ j_ : Int, (mn (a0.size : Int) a1) = j_ := ⟨_, rfl⟩
  replace H : (if 0 ≤ (ji3) then (if (ji3) ≤ (a0.size : Int) then (some (a0.extract 0 ((ji3) : Int).toNat)) else (none)) else (none)) = some r := by first | (rw [hji3] at H; exact H) | (simp only [hji3] at H ⊢; exact H)
  have hji3_ : (if a1 < (a0.size : Int) then a1 else (a0.size : Int)) = ji3 := hji3
  by_cases c4 : 0 ≤ (ji3)
  · rw [if_pos c4] at H
    have c4b0 := eq_true c4
    have c4b1 : decide (0 ≤ (ji3)) = true := decide_eq_true c4
    clear c4
    by_cases c5 : (ji3) ≤ (a0.size : Int)
    · rw [if_pos c5] at H
      have c5b0 := eq_true c5
      have c5b1 : decide ((ji3) ≤ (a0.size : Int)) = true := decide_eq_true c5
      clear c5
      obtain rfl := Option.some.inj H
      go_enter Tryd.func27, Tryd.ntmps27
      go_wp2
      go_ret
      exact ⟨by first | rfl | (simp [errW_none, errW_some] <;> rfl) | (simp only [← hji3]; first | rfl | (simp [errW_none, errW_some] <;> rfl)) | (simp [*, errW_none, errW_some] <;> rfl), by repeat (first | (with_reducible first | exact HB.out | apply below_alloc | apply pw_below_drewN | apply below_drew1) | exact HB.out)⟩
    · rw [if_neg c5] at H
      exact absurd H (by simp)
  · rw [if_neg c4] at H
    exact absurd H (by simp)
def cachepotbook_Texts.l0 : Nat → List ByteArray → Int → Int → List ByteArray → Int → Option (List ByteArray)
  | 0, _, _, _, _, _ => none
  | k + 1, x0, x1, x2, x7, x8 => if x8 < (x0.length : Int) then (if x8 < x1 then (if 0 ≤ x8 then ((cachepotbook_Short.f (rdOf ByteArray.empty x0 x8) x2).bind fun t179 => (if x7.length < 8796093022208 then (cachepotbook_Texts.l0 k x0 x1 x2 (x7 ++ [t179]) (wrap64 (x8 + 1))) else (none))) else (none)) else (some x7)) else (some x7)
def cachepotbook_Texts.f (k : Nat) (l0 : List ByteArray) (a1 : Int) (a2 : Int) : Option (List ByteArray) := cachepotbook_Texts.l0 k l0 a1 a2 ([] : List ByteArray) 0
set_option maxHeartbeats 8000000 in
set_option maxRecDepth 100000 in
theorem cachepotbook_Texts.calls (k : Nat) (A0 : Option Addr) (c0 : Nat) (l0 : List ByteArray) (a1 : Int) (a2 : Int) (r : List ByteArray) (w : World) (hr0 : Kd.C Kd.string w A0 l0.length l0) (hc0 : l0.length ≤ c0) (h : cachepotbook_Texts.f k l0 a1 a2 = some r) :
    Calls Tryd.prog 24 #[.slice A0 l0.length c0, .int .i64 a1, .int .i64 a2] w fun e w' => ∃ v0_ : Value, e = .returned (v0_) ∧ Kd.R Kd.string 9 w' w.heap.size (fun _ => True) v0_ r ∧ Below w.heap.size w w' := by
  have HR0 := Aside0.mk hr0
  have HC0 := Aside0.mk hc0
  clear hr0 hc0
  have HB := Aside0.mk (Below.refl w.heap.size w)
  have H : (cachepotbook_Texts.l0 k l0 a1 a2 ([] : List ByteArray) 0) = some r := h
  clear h
  have H' := Aside0.mk H
  clear H
  go_enter Tryd.func24, Tryd.ntmps24
  go_wp2
  go_loopg [7, 8] k (fun kq v7 v8 w' => ∃ (x7_1 : List ByteArray) (x8_1 : Int), v8 = .int .i64 x8_1 ∧ Aside0 (cachepotbook_Texts.l0 kq l0 a1 a2 x7_1 x8_1 = some r) ∧ Aside0 (kq ≤ k) ∧ Aside0 (Kd.R Kd.string 9 w' w.heap.size (fun _ => True) v7 x7_1) ∧ Aside0 (Below w.heap.size w w'))
  case atStart => exact ⟨(([] : List ByteArray)), (0), (by first | rfl | (simp; done) | (simp [*]; done)), H', ⟨Nat.le_refl _⟩, ⟨by first | exact Kd.R_nil _ _ _ _ _ | exact Kd.N_nil _ _ _ _ _ | exact Kd.V_nil _ _ _ _ _ | exact Kd.Q_nil _ _ _ _ _ | exact Kd.S_nil _ _ _ _ _⟩, ⟨by repeat (first | (with_reducible first | exact HB.out | apply below_alloc | apply pw_below_drewN | apply below_drew1) | exact HB.out)⟩⟩
  case round =>
    clear H'
    try clear c2
    try clear p2
    obtain ⟨x7_1, x8_1, rfl, HA, HK1, HO_7, HB⟩ := hrel
    cases gk with
    | zero => exact absurd HA.out (by simp [cachepotbook_Texts.l0])
    | succ k1 =>
      have H := HA.out
      clear HA
      simp only [cachepotbook_Texts.l0] at H
      by_cases c4 : x8_1 < (l0.length : Int)
      · rw [if_pos c4] at H
        have c4b0 : decide (x8_1 < (l0.length : Int)) = true := decide_eq_true c4
        clear c4
        by_cases c5 : x8_1 < a1
        · rw [if_pos c5] at H
          have c5b0 : decide (x8_1 < a1) = true := decide_eq_true c5
          clear c5
          by_cases c6 : 0 ≤ x8_1
          · rw [if_pos c6] at H
            have c6b0 : decide (0 ≤ x8_1) = true := decide_eq_true c6
            clear c6
            replace H := Option.bind_eq_some_iff.mp H
            obtain ⟨t179, A70, H⟩ := H
            replace H : (if x7_1.length < 8796093022208 then (cachepotbook_Texts.l0 k1 l0 a1 a2 (x7_1 ++ [t179]) (wrap64 (x8_1 + 1))) else (none)) = some r := H
            have A7 := Aside0.mk A70
            clear A70
            by_cases c8 : x7_1.length < 8796093022208
            · rw [if_pos c8] at H
              have LMc8 := Aside0.mk c8
              clear c8
              obtain ⟨y180, hy180⟩ : ∃ y_ : List ByteArray, y_ = (x7_1 ++ [t179]) := ⟨_, rfl⟩
              replace H : (cachepotbook_Texts.l0 k1 l0 a1 a2 y180 (wrap64 (x8_1 + 1))) = some r := by first | (rw [hy180]; with_reducible exact H) | (have H2_ := (Option.bind_some _ _).symm.trans H; rw [hy180]; with_reducible exact H2_) | (have H2_ := (Option.bind_some _ _).symm.trans H; with_reducible exact H2_) | with_reducible exact H | (rw [hy180]; exact H) | exact H
              have Ny180 := Aside0.mk hy180
              clear hy180
              have H' := Aside0.mk H
              clear H
              have p178 : 0 ≤ (x8_1 : Int) := of_decide_eq_true (by first | (with_reducible assumption) | assumption)
              have q178 : x8_1 < (l0.length : Int) := of_decide_eq_true (by first | (with_reducible assumption) | assumption)
              obtain ⟨ad178, e178, hx178_0⟩ := Kd.at_string HR0.out x8_1 p178 q178
              cases e178
              replace hx178_0 := (HB.out.cell (World.block_lt_of_cell? w _ hx178_0)).trans hx178_0
              replace p178 := eq_true p178
              replace q178 := eq_true q178
              go_wp2_with (first | ((with_reducible refine gate_callee (f := 27) rfl ?_); refine goesL_ (some 26) rfl rfl Tryd.func27 (by kernel_rfl) rfl #[.string (rdOf ByteArray.empty l0 x8_1), .int .i64 a2] rfl (by (try simp only [List.map_toArray, List.map_cons, List.map_nil]); first | done | rfl | (simp only [List.length_drop, List.length_take]; rfl)) ?_; (with_reducible refine (cachepotbook_Short.calls (rdOf ByteArray.empty l0 x8_1) a2 t179 _ A7.out).mono ?_); rintro e w9 ⟨rfl, hb⟩; refine ⟨_, rfl, ?_⟩; have n0_ := Aside0.mk (Kd.R_below (by (with_reducible repeat (first | apply Kd.R_alloc | apply Kd.R_drewN | apply Kd.R_drew)); exact HO_7.out) hb); have n1_ := Aside0.mk (below_step (by repeat (first | (with_reducible first | exact HB.out | apply below_alloc | apply pw_below_drewN | apply below_drew1) | exact HB.out)) hb); clear HO_7; clear HB; have HO_7 := n0_; have HB := n1_; clear n0_ n1_; (try clear hb); (try clear hb2); (try clear hk); (try clear hi)) | ((with_reducible refine gate_builtin (b := .append) (xs := #[.tmp 20, .tmp 27]) rfl ?_); at_builtin; refine Kd.R_append Kd.string (w0 := w) w.heap.size rfl (.tmp 20) (.tmp 27) 22 9 (.string ⟨#[]⟩) 16 rfl Tryd.underlying22 info9 rfl (by decide) (by omega) u7 x7_1 t179 [.string t179] (fun _ => True) (fun _ => False) rfl rfl ?aP (fun _ hk => hk.elim) ?aF ?aO ?aB ?aS ?aL ?_; (case aP => exact rfl); (case aB => exact (by repeat (first | (with_reducible first | exact HB.out | apply below_alloc | apply pw_below_drewN | apply below_drew1) | exact HB.out))); (case aF => exact (fun _ _ => trivial)); (case aO => exact (by (with_reducible repeat (first | apply Kd.R_alloc | apply Kd.R_drewN | apply Kd.R_drew)); exact HO_7.out)); (case aS => exact (below_size (by repeat (first | (with_reducible first | exact HB.out | apply below_alloc | apply pw_below_drewN | apply below_drew1) | exact HB.out)))); (case aL => have := LMc8.out; omega); intro v181 w10 ho hb hg hat; rw [← Ny180.out] at ho; have n0_ := Aside0.mk (hb); have n1_ := Aside0.mk (ho); clear HB; clear HO_7; have HB := n0_; have HO182 := n1_; clear n0_ n1_; clear ho hb hg hat))
              go_roundg k1
              case measure => have := HK1.out; omega
              case rel => exact ⟨(y180), (wrap64 (x8_1 + 1)), (by first | rfl | (simp; done) | (simp [*]; done)), H', ⟨by have := HK1.out; omega⟩, ⟨by (with_reducible repeat (first | apply Kd.R_alloc | apply Kd.R_drewN | apply Kd.R_drew)); exact HO182.out⟩, ⟨by repeat (first | (with_reducible first | exact HB.out | apply below_alloc | apply pw_below_drewN | apply below_drew1) | exact HB.out)⟩⟩
            · rw [if_neg c8] at H
              exact absurd H (by simp)
          · rw [if_neg c6] at H
            exact absurd H (by simp)
        · rw [if_neg c5] at H
          have c5b0 : decide (x8_1 < a1) = false := decide_eq_false c5
          clear c5
          obtain rfl := Option.some.inj H
          go_wp2
          go_ret
          exact ⟨_, by first | rfl | (simp [errW_none, errW_some] <;> rfl) | (simp [*, errW_none, errW_some] <;> rfl), by (with_reducible repeat (first | apply Kd.R_alloc | apply Kd.R_drewN | apply Kd.R_drew)); exact HO_7.out, by repeat (first | (with_reducible first | exact HB.out | apply below_alloc | apply pw_below_drewN | apply below_drew1) | exact HB.out)⟩
      · rw [if_neg c4] at H
        have c4b0 : decide (x8_1 < (l0.length : Int)) = false := decide_eq_false c4
        clear c4
        obtain rfl := Option.some.inj H
        go_wp2
        go_ret
        exact ⟨_, by first | rfl | (simp [errW_none, errW_some] <;> rfl) | (simp [*, errW_none, errW_some] <;> rfl), by (with_reducible repeat (first | apply Kd.R_alloc | apply Kd.R_drewN | apply Kd.R_drew)); exact HO_7.out, by repeat (first | (with_reducible first | exact HB.out | apply below_alloc | apply pw_below_drewN | apply below_drew1) | exact HB.out)⟩
mutual
def cachepotbook_Writes.l0 : Nat → List (S101) → Int → List (S101) → Int → Option ((List (S101)))
  | 0, _, _, _, _ => none
  | k + 1, x0, x1, x5, x6 => if x6 < (x0.length : Int) then (cachepotbook_Writes.j1 k x0 x1 x5 x6 (decide (x6 < x1))) else (cachepotbook_Writes.j1 k x0 x1 x5 x6 false)
def cachepotbook_Writes.j1 : Nat → List (S101) → Int → List (S101) → Int → Bool → Option ((List (S101)))
  | 0, _, _, _, _, _ => none
  | k + 1, x0, x1, x5, x6, x15 => if x15 = true then (if 0 ≤ x6 then (if x6 < (x0.length : Int) then ((cachepotbook_Short.f ((rd_T101 x0 x6).f0) 60).bind fun t184 => ((cachepotbook_Short.f ((rd_T101 x0 x6).f2) 60).bind fun t187 => (if x5.length < 3518437208883 then (cachepotbook_Writes.l0 k x0 x1 (x5 ++ [(⟨t184, (rd_T101 x0 x6).f1, t187⟩ : S101)]) (wrap64 (x6 + 1))) else (none)))) else (none)) else (none)) else (some x5)
end
def cachepotbook_Writes.f (k : Nat) (l0 : List (S101)) (a1 : Int) : Option ((List (S101))) := cachepotbook_Writes.l0 k l0 a1 ([] : List (S101)) 0
def cachepotbook_Writes.T5 : Bool × List (List Nat × List Nat) := (true, [([], []), ([], []), ([], []), ([1, 2], [1, 2]), ([3], [3]), ([4], [4]), ([5], [5]), ([], []), ([], []), ([7, 8], [7, 8]), ([9], [9]), ([10], [10]), ([], []), ([], []), ([12, 13], [12, 13]), ([14], [14]), ([15], [15]), ([16, 6], [16]), ([6, 11, 17], [6, 11, 17]), ([18], [18]), ([0, 19, 17], [0, 19]), ([20, 20, 0, 1, 2, 3, 4, 5, 6, 7, 8, 9, 10, 11, 12, 13, 14, 15, 16, 17, 18, 19, 20], [0, 20])])
def cachepotbook_Writes.B5 : List Nat := [0, 0, 0, 6, 14, 30, 62, 0, 0, 384, 896, 1920, 0, 0, 12288, 28672, 61440, 127102, 262142, 524286, 1048575, 2097151]
theorem cachepotbook_Writes.tab5 : rtab .any (opsOf Tryd.f78 5) = cachepotbook_Writes.T5 := by kernel_rfl
theorem cachepotbook_Writes.bits5 : waitsOk cachepotbook_Writes.T5.2 cachepotbook_Writes.B5 = true := by kernel_rfl
set_option maxHeartbeats 8000000 in
set_option maxRecDepth 100000 in
theorem cachepotbook_Writes.calls (k : Nat) (A0 : Option Addr) (c0 : Nat) (l0 : List (S101)) (a1 : Int) (r : List (S101)) (w : World) (hr0 : Kd.C k101 w A0 l0.length l0) (hc0 : l0.length ≤ c0) (h : cachepotbook_Writes.f k l0 a1 = some r) :
    Calls Tryd.prog 78 #[.slice A0 l0.length c0, .int .i64 a1] w fun e w' => ∃ v0_ : Value, e = .returned (v0_) ∧ Kd.R k101 101 w' w.heap.size (fun _ => True) v0_ r ∧ Below w.heap.size w w' := by
  have hu101 := Tryd.underlying101
  have HR0 := Aside0.mk hr0
  have HC0 := Aside0.mk hc0
  clear hr0 hc0
  have HB := Aside0.mk (Below.refl w.heap.size w)
  have H : (cachepotbook_Writes.l0 k l0 a1 ([] : List (S101)) 0) = some r := h
  clear h
  have H' := Aside0.mk H
  clear H
  go_enter Tryd.func78, Tryd.ntmps78
  go_wp2
  go_loopg [5, 6] k (fun kq v5 v6 w' => ∃ (x5_1 : List (S101)) (x6_1 : Int), v6 = .int .i64 x6_1 ∧ Aside0 (cachepotbook_Writes.l0 kq l0 a1 x5_1 x6_1 = some r) ∧ Aside0 (kq ≤ k) ∧ Aside0 (Kd.R k101 101 w' w.heap.size (fun _ => True) v5 x5_1) ∧ Aside0 (Below w.heap.size w w'))
  case atStart => exact ⟨(([] : List (S101))), (0), (by first | rfl | (simp; done) | (simp [*]; done)), H', ⟨Nat.le_refl _⟩, ⟨by first | exact Kd.R_nil _ _ _ _ _ | exact Kd.N_nil _ _ _ _ _ | exact Kd.V_nil _ _ _ _ _ | exact Kd.Q_nil _ _ _ _ _ | exact Kd.S_nil _ _ _ _ _⟩, ⟨by repeat (first | (with_reducible first | exact HB.out | apply below_alloc | apply pw_below_drewN | apply below_drew1) | exact HB.out)⟩⟩
  case round =>
    clear H'
    try clear p2
    obtain ⟨x5_1, x6_1, rfl, HA, HK1, HO_5, HB⟩ := hrel
    cases gk with
    | zero => exact absurd HA.out (by simp [cachepotbook_Writes.l0])
    | succ k1 =>
      have H := HA.out
      clear HA
      simp only [cachepotbook_Writes.l0] at H
      have HC3 := Aside0.mk H
      clear H
      go_upto_region 3 with (fail)
      go_cut [15] (fun v15 wc => ∃ (kq : Nat) (x15_2 : Bool), v15 = .bool x15_2 ∧ Aside0 (cachepotbook_Writes.j1 kq l0 a1 x5_1 x6_1 x15_2 = some r) ∧ Aside0 (kq ≤ k1) ∧ Aside0 (Kd.R k101 101 wc w.heap.size (fun _ => True) u5 x5_1) ∧ Aside0 (Below w.heap.size w wc))
      case first =>
        have H := HC3.out
        clear HC3
        by_cases c4 : x6_1 < (l0.length : Int)
        · rw [if_pos c4] at H
          have c4b0 : decide (x6_1 < (l0.length : Int)) = true := decide_eq_true c4
          clear c4
          (first | rw [c4b0] | (simp only [i64_w, i32_w]; rw [c4b0]) | skip)
          have H' := Aside0.mk H
          clear H
          go_wp2
          go_meet
          case rel => exact ⟨_, (decide (x6_1 < a1)), (by first | rfl | (simp; done) | (simp [*]; done)), H', ⟨by have := HK1.out; first | omega | exact Nat.le_refl _⟩, ⟨by (with_reducible repeat (first | apply Kd.R_alloc | apply Kd.R_drewN | apply Kd.R_drew)); exact HO_5.out⟩, ⟨by repeat (first | (with_reducible first | exact HB.out | apply below_alloc | apply pw_below_drewN | apply below_drew1) | exact HB.out)⟩⟩
        · rw [if_neg c4] at H
          have c4b0 : decide (x6_1 < (l0.length : Int)) = false := decide_eq_false c4
          clear c4
          (first | rw [c4b0] | (simp only [i64_w, i32_w]; rw [c4b0]) | skip)
          have H' := Aside0.mk H
          clear H
          go_wp2
          go_meet
          case rel => exact ⟨_, (false), (by first | rfl | (simp; done) | (simp [*]; done)), H', ⟨by have := HK1.out; first | omega | exact Nat.le_refl _⟩, ⟨by (with_reducible repeat (first | apply Kd.R_alloc | apply Kd.R_drewN | apply Kd.R_drew)); exact HO_5.out⟩, ⟨by repeat (first | (with_reducible first | exact HB.out | apply below_alloc | apply pw_below_drewN | apply below_drew1) | exact HB.out)⟩⟩
      case rest =>
        clear HC3
        try clear p2
        try clear c4
        try clear c4b0
        try clear p2
        obtain ⟨kq, x15_2, rfl, HA, HJ2, HO_5, HB⟩ := hcut
        cases kq with
        | zero => exact absurd HA.out (by simp [cachepotbook_Writes.j1])
        | succ kj2 =>
          have H := HA.out
          clear HA
          simp only [cachepotbook_Writes.j1] at H
          by_cases c5 : x15_2 = true
          · subst c5
            have H1 : (if 0 ≤ x6_1 then (if x6_1 < (l0.length : Int) then ((cachepotbook_Short.f ((rd_T101 l0 x6_1).f0) 60).bind fun t184 => ((cachepotbook_Short.f ((rd_T101 l0 x6_1).f2) 60).bind fun t187 => (if x5_1.length < 3518437208883 then (cachepotbook_Writes.l0 kj2 l0 a1 (x5_1 ++ [(⟨t184, (rd_T101 l0 x6_1).f1, t187⟩ : S101)]) (wrap64 (x6_1 + 1))) else (none)))) else (none)) else (none)) = some r := by rw [if_pos rfl] at H; exact H
            clear H
            have H := H1
            clear H1
            by_cases c6 : 0 ≤ x6_1
            · rw [if_pos c6] at H
              have c6b0 : decide (0 ≤ x6_1) = true := decide_eq_true c6
              clear c6
              by_cases c7 : x6_1 < (l0.length : Int)
              · rw [if_pos c7] at H
                have c7b0 : decide (x6_1 < (l0.length : Int)) = true := decide_eq_true c7
                clear c7
                replace H := Option.bind_eq_some_iff.mp H
                obtain ⟨t184, A80, H⟩ := H
                replace H : ((cachepotbook_Short.f ((rd_T101 l0 x6_1).f2) 60).bind fun t187 => (if x5_1.length < 3518437208883 then (cachepotbook_Writes.l0 kj2 l0 a1 (x5_1 ++ [(⟨t184, (rd_T101 l0 x6_1).f1, t187⟩ : S101)]) (wrap64 (x6_1 + 1))) else (none))) = some r := H
                have A8 := Aside0.mk A80
                clear A80
                replace H := Option.bind_eq_some_iff.mp H
                obtain ⟨t187, A90, H⟩ := H
                replace H : (if x5_1.length < 3518437208883 then (cachepotbook_Writes.l0 kj2 l0 a1 (x5_1 ++ [(⟨t184, (rd_T101 l0 x6_1).f1, t187⟩ : S101)]) (wrap64 (x6_1 + 1))) else (none)) = some r := H
                have A9 := Aside0.mk A90
                clear A90
                by_cases c10 : x5_1.length < 3518437208883
                · rw [if_pos c10] at H
                  have LMc10 := Aside0.mk c10
                  clear c10
                  obtain ⟨y188, hy188⟩ : ∃ y_ : List (S101), y_ = (x5_1 ++ [(⟨t184, (rd_T101 l0 x6_1).f1, t187⟩ : S101)]) := ⟨_, rfl⟩
                  replace H : (cachepotbook_Writes.l0 kj2 l0 a1 y188 (wrap64 (x6_1 + 1))) = some r := by first | (rw [hy188]; with_reducible exact H) | (have H2_ := (Option.bind_some _ _).symm.trans H; rw [hy188]; with_reducible exact H2_) | (have H2_ := (Option.bind_some _ _).symm.trans H; with_reducible exact H2_) | with_reducible exact H | (rw [hy188]; exact H) | exact H
                  have Ny188 := Aside0.mk hy188
                  clear hy188
                  have H' := Aside0.mk H
                  clear H
                  try go_wp2
                  have n0_ := Aside0.mk (Kd.R_drew HO_5.out)
                  have n1_ := Aside0.mk (below_drew1 HB.out)
                  clear HO_5
                  clear HB
                  have HO_5 := n0_
                  have HB := n1_
                  clear n0_ n1_
                  have p183 : 0 ≤ (x6_1 : Int) := of_decide_eq_true (by first | (with_reducible assumption) | assumption)
                  have q183 : x6_1 < (l0.length : Int) := of_decide_eq_true (by first | (with_reducible assumption) | assumption)
                  obtain ⟨ad183, e183, hx183_0, hx183_1, hx183_2⟩ := at_T101 HR0.out x6_1 p183 q183
                  have hw183_2 := hx183_2
                  have hw183_1 := hx183_1
                  have hw183_0 := hx183_0
                  cases e183
                  replace hx183_0 := (HB.out.cell (World.block_lt_of_cell? w _ hx183_0)).trans hx183_0
                  replace hx183_1 := (HB.out.cell (World.block_lt_of_cell? w _ hx183_1)).trans hx183_1
                  replace hx183_2 := (HB.out.cell (World.block_lt_of_cell? w _ hx183_2)).trans hx183_2
                  replace p183 := eq_true p183
                  replace q183 := eq_true q183
                  have p185 : 0 ≤ (x6_1 : Int) := of_decide_eq_true (by first | (with_reducible assumption) | assumption)
                  have q185 : x6_1 < (l0.length : Int) := of_decide_eq_true (by first | (with_reducible assumption) | assumption)
                  obtain ⟨ad185, e185, hx185_0, hx185_1, hx185_2⟩ := at_T101 HR0.out x6_1 p185 q185
                  have hw185_2 := hx185_2
                  have hw185_1 := hx185_1
                  have hw185_0 := hx185_0
                  obtain rfl : ad183 = ad185 := (by injection e185)
                  replace hx185_0 := (HB.out.cell (World.block_lt_of_cell? w _ hx185_0)).trans hx185_0
                  replace hx185_1 := (HB.out.cell (World.block_lt_of_cell? w _ hx185_1)).trans hx185_1
                  replace hx185_2 := (HB.out.cell (World.block_lt_of_cell? w _ hx185_2)).trans hx185_2
                  replace p185 := eq_true p185
                  replace q185 := eq_true q185
                  have p186 : 0 ≤ (x6_1 : Int) := of_decide_eq_true (by first | (with_reducible assumption) | assumption)
                  have q186 : x6_1 < (l0.length : Int) := of_decide_eq_true (by first | (with_reducible assumption) | assumption)
                  obtain ⟨ad186, e186, hx186_0, hx186_1, hx186_2⟩ := at_T101 HR0.out x6_1 p186 q186
                  have hw186_2 := hx186_2
                  have hw186_1 := hx186_1
                  have hw186_0 := hx186_0
                  obtain rfl : ad183 = ad186 := (by injection e186)
                  replace hx186_0 := (HB.out.cell (World.block_lt_of_cell? w _ hx186_0)).trans hx186_0
                  replace hx186_1 := (HB.out.cell (World.block_lt_of_cell? w _ hx186_1)).trans hx186_1
                  replace hx186_2 := (HB.out.cell (World.block_lt_of_cell? w _ hx186_2)).trans hx186_2
                  replace p186 := eq_true p186
                  replace q186 := eq_true q186
                  refine start_ (n := 22) (S := fun w' => w'.cell? (ad183.add ((x6_1).toNat * 3)) = some (.string ((rd_T101 l0 x6_1).f0)) ∧ w'.cell? ⟨(ad183.add ((x6_1).toNat * 3)).block, (ad183.add ((x6_1).toNat * 3)).off + 1, none⟩ = some (.bool ((rd_T101 l0 x6_1).f1)) ∧ w'.cell? ⟨(ad183.add ((x6_1).toNat * 3)).block, (ad183.add ((x6_1).toNat * 3)).off + 2, none⟩ = some (.string ((rd_T101 l0 x6_1).f2)) ∧ w'.cell? (ad183.add ((x6_1).toNat * 3)) = some (.string ((rd_T101 l0 x6_1).f0)) ∧ w'.cell? ⟨(ad183.add ((x6_1).toNat * 3)).block, (ad183.add ((x6_1).toNat * 3)).off + 1, none⟩ = some (.bool ((rd_T101 l0 x6_1).f1)) ∧ w'.cell? ⟨(ad183.add ((x6_1).toNat * 3)).block, (ad183.add ((x6_1).toNat * 3)).off + 2, none⟩ = some (.string ((rd_T101 l0 x6_1).f2)) ∧ w'.cell? (ad183.add ((x6_1).toNat * 3)) = some (.string ((rd_T101 l0 x6_1).f0)) ∧ w'.cell? ⟨(ad183.add ((x6_1).toNat * 3)).block, (ad183.add ((x6_1).toNat * 3)).off + 1, none⟩ = some (.bool ((rd_T101 l0 x6_1).f1)) ∧ w'.cell? ⟨(ad183.add ((x6_1).toNat * 3)).block, (ad183.add ((x6_1).toNat * 3)).off + 2, none⟩ = some (.string ((rd_T101 l0 x6_1).f2))) (ds := []) #[false, false, false, false, false, false, false, false, false, false, false, false, false, false, false, false, false, false, false, false, false, false] (by kernel_rfl) rfl rfl ⟨((HB.out.cell (World.block_lt_of_cell? w _ hw183_0)).trans hw183_0), ((HB.out.cell (World.block_lt_of_cell? w _ hw183_1)).trans hw183_1), ((HB.out.cell (World.block_lt_of_cell? w _ hw183_2)).trans hw183_2), ((HB.out.cell (World.block_lt_of_cell? w _ hw185_0)).trans hw185_0), ((HB.out.cell (World.block_lt_of_cell? w _ hw185_1)).trans hw185_1), ((HB.out.cell (World.block_lt_of_cell? w _ hw185_2)).trans hw185_2), ((HB.out.cell (World.block_lt_of_cell? w _ hw186_0)).trans hw186_0), ((HB.out.cell (World.block_lt_of_cell? w _ hw186_1)).trans hw186_1), ((HB.out.cell (World.block_lt_of_cell? w _ hw186_2)).trans hw186_2)⟩ (fun hHeld => ?_); refine with_tabW cachepotbook_Writes.tab5 cachepotbook_Writes.bits5 (fun HT_ HW_ => ?_)
                  generalize wc.drew = w11 at HO_5 HB hx183_0 hx183_1 hx183_2 hx185_0 hx185_1 hx185_2 hx186_0 hx186_1 hx186_2 hHeld ⊢
                  refine pure_ (i := 0) (N := some 18) (v := ?_) (a' := ?_) #[true, false, false, false, false, false, false, false, false, false, false, false, false, false, false, false, false, false, false, false, false, false] rfl rfl (any_of HT_.out (by kernel_rfl)) (fun _ _ _ h => h) (Or.inl ⟨by rfl, ?_⟩) ?_ ?_
                  rotate_left
                  · intro w'
                    go_simp
                    with_reducible rfl
                  rotate_left
                  · simp only [Act.put, List.setIfInBounds_toArray, List.set_cons_zero, List.set_cons_succ, i64_w, i32_w]
                    rfl
                  refine pure_ (i := 1) (N := some 19) (v := ?_) (a' := ?_) #[true, true, false, false, false, false, false, false, false, false, false, false, false, false, false, false, false, false, false, false, false, false] rfl rfl (any_of HT_.out (by kernel_rfl)) (fun _ _ _ h => h) (Or.inl ⟨by rfl, ?_⟩) ?_ ?_
                  rotate_left
                  · intro w'
                    go_simp
                    with_reducible rfl
                  rotate_left
                  · simp only [Act.put, List.setIfInBounds_toArray, List.set_cons_zero, List.set_cons_succ, i64_w, i32_w]
                    rfl
                  refine pure_ (i := 2) (N := some 20) (v := ?_) (a' := ?_) #[true, true, true, false, false, false, false, false, false, false, false, false, false, false, false, false, false, false, false, false, false, false] rfl rfl (any_of HT_.out (by kernel_rfl)) (fun _ _ _ h => h) (Or.inl ⟨by rfl, ?_⟩) ?_ ?_
                  rotate_left
                  · intro w'
                    go_simp
                    with_reducible rfl
                  rotate_left
                  · simp only [Act.put, List.setIfInBounds_toArray, List.set_cons_zero, List.set_cons_succ, i64_w, i32_w]
                    rfl
                  refine pure_ (i := 3) (N := some 21) (v := ?_) (a' := ?_) #[true, true, true, true, false, false, false, false, false, false, false, false, false, false, false, false, false, false, false, false, false, false] rfl rfl (any_of HT_.out (by kernel_rfl)) (fun _ _ _ h => h) (Or.inl ⟨by rfl, ?_⟩) ?_ ?_
                  rotate_left
                  · intro w'
                    go_simp
                    with_reducible rfl
                  rotate_left
                  · simp only [Act.put, List.setIfInBounds_toArray, List.set_cons_zero, List.set_cons_succ, i64_w, i32_w]
                    rfl
                  refine pure_ (i := 4) (N := some 22) (v := ?_) (a' := ?_) #[true, true, true, true, true, false, false, false, false, false, false, false, false, false, false, false, false, false, false, false, false, false] rfl rfl (any_of HT_.out (by kernel_rfl)) (fun _ _ _ h => h) (Or.inl ⟨by rfl, ?_⟩) ?_ ?_
                  rotate_left
                  · intro w'
                    go_simp
                    with_reducible rfl
                  rotate_left
                  · simp only [Act.put, List.setIfInBounds_toArray, List.set_cons_zero, List.set_cons_succ, i64_w, i32_w]
                    rfl
                  refine pure_ (i := 7) (N := some 25) (v := ?_) (a' := ?_) #[true, true, true, true, true, false, false, true, false, false, false, false, false, false, false, false, false, false, false, false, false, false] rfl rfl (any_of HT_.out (by kernel_rfl)) (fun _ _ _ h => h) (Or.inl ⟨by rfl, ?_⟩) ?_ ?_
                  rotate_left
                  · intro w'
                    go_simp
                    with_reducible rfl
                  rotate_left
                  · simp only [Act.put, List.setIfInBounds_toArray, List.set_cons_zero, List.set_cons_succ, i64_w, i32_w]
                    rfl
                  refine pure_ (i := 8) (N := some 26) (v := ?_) (a' := ?_) #[true, true, true, true, true, false, false, true, true, false, false, false, false, false, false, false, false, false, false, false, false, false] rfl rfl (any_of HT_.out (by kernel_rfl)) (fun _ _ _ h => h) (Or.inl ⟨by rfl, ?_⟩) ?_ ?_
                  rotate_left
                  · intro w'
                    go_simp
                    with_reducible rfl
                  rotate_left
                  · simp only [Act.put, List.setIfInBounds_toArray, List.set_cons_zero, List.set_cons_succ, i64_w, i32_w]
                    rfl
                  refine pure_ (i := 9) (N := some 27) (v := ?_) (a' := ?_) #[true, true, true, true, true, false, false, true, true, true, false, false, false, false, false, false, false, false, false, false, false, false] rfl rfl (any_of HT_.out (by kernel_rfl)) (fun _ _ _ h => h) (Or.inl ⟨by rfl, ?_⟩) ?_ ?_
                  rotate_left
                  · intro w'
                    go_simp
                    with_reducible rfl
                  rotate_left
                  · simp only [Act.put, List.setIfInBounds_toArray, List.set_cons_zero, List.set_cons_succ, i64_w, i32_w]
                    rfl
                  refine pure_ (i := 10) (N := some 28) (v := ?_) (a' := ?_) #[true, true, true, true, true, false, false, true, true, true, true, false, false, false, false, false, false, false, false, false, false, false] rfl rfl (any_of HT_.out (by kernel_rfl)) (fun _ _ _ h => h) (Or.inl ⟨by rfl, ?_⟩) ?_ ?_
                  rotate_left
                  · intro w'
                    go_simp
                    with_reducible rfl
                  rotate_left
                  · simp only [Act.put, List.setIfInBounds_toArray, List.set_cons_zero, List.set_cons_succ, i64_w, i32_w]
                    rfl
                  refine pure_ (i := 12) (N := some 30) (v := ?_) (a' := ?_) #[true, true, true, true, true, false, false, true, true, true, true, false, true, false, false, false, false, false, false, false, false, false] rfl rfl (any_of HT_.out (by kernel_rfl)) (fun _ _ _ h => h) (Or.inl ⟨by rfl, ?_⟩) ?_ ?_
                  rotate_left
                  · intro w'
                    go_simp
                    with_reducible rfl
                  rotate_left
                  · simp only [Act.put, List.setIfInBounds_toArray, List.set_cons_zero, List.set_cons_succ, i64_w, i32_w]
                    rfl
                  refine pure_ (i := 13) (N := some 31) (v := ?_) (a' := ?_) #[true, true, true, true, true, false, false, true, true, true, true, false, true, true, false, false, false, false, false, false, false, false] rfl rfl (any_of HT_.out (by kernel_rfl)) (fun _ _ _ h => h) (Or.inl ⟨by rfl, ?_⟩) ?_ ?_
                  rotate_left
                  · intro w'
                    go_simp
                    with_reducible rfl
                  rotate_left
                  · simp only [Act.put, List.setIfInBounds_toArray, List.set_cons_zero, List.set_cons_succ, i64_w, i32_w]
                    rfl
                  refine pure_ (i := 14) (N := some 32) (v := ?_) (a' := ?_) #[true, true, true, true, true, false, false, true, true, true, true, false, true, true, true, false, false, false, false, false, false, false] rfl rfl (any_of HT_.out (by kernel_rfl)) (fun _ _ _ h => h) (Or.inl ⟨by rfl, ?_⟩) ?_ ?_
                  rotate_left
                  · intro w'
                    go_simp
                    with_reducible rfl
                  rotate_left
                  · simp only [Act.put, List.setIfInBounds_toArray, List.set_cons_zero, List.set_cons_succ, i64_w, i32_w]
                    rfl
                  refine pure_ (i := 15) (N := some 33) (v := ?_) (a' := ?_) #[true, true, true, true, true, false, false, true, true, true, true, false, true, true, true, true, false, false, false, false, false, false] rfl rfl (any_of HT_.out (by kernel_rfl)) (fun _ _ _ h => h) (Or.inl ⟨by rfl, ?_⟩) ?_ ?_
                  rotate_left
                  · intro w'
                    go_simp
                    with_reducible rfl
                  rotate_left
                  · simp only [Act.put, List.setIfInBounds_toArray, List.set_cons_zero, List.set_cons_succ, i64_w, i32_w]
                    rfl
                  refine take_ (i := 5) (N := some 23) (v := ?_) (a' := ?_) #[true, true, true, true, true, true, false, true, true, true, true, false, true, true, true, true, false, false, false, false, false, false] rfl rfl (take_ofW HT_.out HW_.out (by kernel_rfl)) (fun _ _ _ h => h) (Or.inl ⟨by rfl, ?_⟩) hHeld ?_ ?_
                  rotate_left
                  · rintro w' ⟨s0, s1, s2, s3, s4, s5, s6, s7, s8⟩
                    go_simp
                    with_reducible rfl
                  rotate_left
                  · simp only [Act.put, List.setIfInBounds_toArray, List.set_cons_zero, List.set_cons_succ, i64_w, i32_w]
                    rfl
                  refine take_ (i := 11) (N := some 29) (v := ?_) (a' := ?_) #[true, true, true, true, true, true, false, true, true, true, true, true, true, true, true, true, false, false, false, false, false, false] rfl rfl (take_ofW HT_.out HW_.out (by kernel_rfl)) (fun _ _ _ h => h) (Or.inl ⟨by rfl, ?_⟩) hHeld ?_ ?_
                  rotate_left
                  · rintro w' ⟨s0, s1, s2, s3, s4, s5, s6, s7, s8⟩
                    go_simp
                    with_reducible rfl
                  rotate_left
                  · simp only [Act.put, List.setIfInBounds_toArray, List.set_cons_zero, List.set_cons_succ, i64_w, i32_w]
                    rfl
                  refine take_ (i := 16) (N := some 34) (v := ?_) (a' := ?_) #[true, true, true, true, true, true, false, true, true, true, true, true, true, true, true, true, true, false, false, false, false, false] rfl rfl (take_ofW HT_.out HW_.out (by kernel_rfl)) (fun _ _ _ h => h) (Or.inl ⟨by rfl, ?_⟩) hHeld ?_ ?_
                  rotate_left
                  · rintro w' ⟨s0, s1, s2, s3, s4, s5, s6, s7, s8⟩
                    go_simp
                    with_reducible rfl
                  rotate_left
                  · simp only [Act.put, List.setIfInBounds_toArray, List.set_cons_zero, List.set_cons_succ, i64_w, i32_w]
                    rfl
                  refine one_ (i := 6) (N := some 24) #[true, true, true, true, true, true, true, true, true, true, true, true, true, true, true, true, true, false, false, false, false, false] rfl rfl (one_of HT_.out (by kernel_rfl)) (by decide) (fun K hK => ?_)
                  refine goes_ Tryd.func27 (by kernel_rfl) rfl #[.string ((rd_T101 l0 x6_1).f0), .int .i64 60] (by rfl) rfl rfl (by (try simp only [List.map_toArray, List.map_cons, List.map_nil]); first | done | rfl | (simp only [List.length_drop, List.length_take]; rfl)) ?_
                  with_reducible refine (cachepotbook_Short.calls ((rd_T101 l0 x6_1).f0) 60 t184 _ A8.out).mono ?_
                  rintro e w12 ⟨rfl, hb⟩
                  refine ⟨_, rfl, ?_⟩
                  have n0_ := Aside0.mk (Kd.R_below (by (with_reducible repeat (first | apply Kd.R_alloc | apply Kd.R_drewN | apply Kd.R_drew)); exact HO_5.out) hb)
                  have n1_ := Aside0.mk (below_step (by repeat (first | (with_reducible first | exact HB.out | apply below_alloc | apply pw_below_drewN | apply below_drew1) | exact HB.out)) hb)
                  clear HO_5
                  clear HB
                  have HO_5 := n0_
                  have HB := n1_
                  clear n0_ n1_
                  (try clear hb)
                  (try clear hb2)
                  (try clear hk)
                  (try clear hi)
                  refine hK.out _ _ ⟨((HB.out.cell (World.block_lt_of_cell? w _ hw183_0)).trans hw183_0), ((HB.out.cell (World.block_lt_of_cell? w _ hw183_1)).trans hw183_1), ((HB.out.cell (World.block_lt_of_cell? w _ hw183_2)).trans hw183_2), ((HB.out.cell (World.block_lt_of_cell? w _ hw185_0)).trans hw185_0), ((HB.out.cell (World.block_lt_of_cell? w _ hw185_1)).trans hw185_1), ((HB.out.cell (World.block_lt_of_cell? w _ hw185_2)).trans hw185_2), ((HB.out.cell (World.block_lt_of_cell? w _ hw186_0)).trans hw186_0), ((HB.out.cell (World.block_lt_of_cell? w _ hw186_1)).trans hw186_1), ((HB.out.cell (World.block_lt_of_cell? w _ hw186_2)).trans hw186_2)⟩ (fun hHeld => ?_)
                  clear hK K
                  refine norm_ (a' := ?_) ?_ ?_
                  rotate_left
                  · show Act.put _ (some 24) _ = _
                    simp only [Act.put, List.setIfInBounds_toArray, List.set_cons_zero, List.set_cons_succ, i64_w, i32_w]
                    rfl
                  refine one_ (i := 17) (N := some 35) #[true, true, true, true, true, true, true, true, true, true, true, true, true, true, true, true, true, true, false, false, false, false] rfl rfl (one_of HT_.out (by kernel_rfl)) (by decide) (fun K hK => ?_)
                  refine goes_ Tryd.func27 (by kernel_rfl) rfl #[.string ((rd_T101 l0 x6_1).f2), .int .i64 60] (by rfl) rfl rfl (by (try simp only [List.map_toArray, List.map_cons, List.map_nil]); first | done | rfl | (simp only [List.length_drop, List.length_take]; rfl)) ?_
                  with_reducible refine (cachepotbook_Short.calls ((rd_T101 l0 x6_1).f2) 60 t187 _ A9.out).mono ?_
                  rintro e w13 ⟨rfl, hb⟩
                  refine ⟨_, rfl, ?_⟩
                  have n0_ := Aside0.mk (Kd.R_below (by (with_reducible repeat (first | apply Kd.R_alloc | apply Kd.R_drewN | apply Kd.R_drew)); exact HO_5.out) hb)
                  have n1_ := Aside0.mk (below_step (by repeat (first | (with_reducible first | exact HB.out | apply below_alloc | apply pw_below_drewN | apply below_drew1) | exact HB.out)) hb)
                  clear HO_5
                  clear HB
                  have HO_5 := n0_
                  have HB := n1_
                  clear n0_ n1_
                  (try clear hb)
                  (try clear hb2)
                  (try clear hk)
                  (try clear hi)
                  refine hK.out _ _ ⟨((HB.out.cell (World.block_lt_of_cell? w _ hw183_0)).trans hw183_0), ((HB.out.cell (World.block_lt_of_cell? w _ hw183_1)).trans hw183_1), ((HB.out.cell (World.block_lt_of_cell? w _ hw183_2)).trans hw183_2), ((HB.out.cell (World.block_lt_of_cell? w _ hw185_0)).trans hw185_0), ((HB.out.cell (World.block_lt_of_cell? w _ hw185_1)).trans hw185_1), ((HB.out.cell (World.block_lt_of_cell? w _ hw185_2)).trans hw185_2), ((HB.out.cell (World.block_lt_of_cell? w _ hw186_0)).trans hw186_0), ((HB.out.cell (World.block_lt_of_cell? w _ hw186_1)).trans hw186_1), ((HB.out.cell (World.block_lt_of_cell? w _ hw186_2)).trans hw186_2)⟩ (fun hHeld => ?_)
                  clear hK K
                  refine norm_ (a' := ?_) ?_ ?_
                  rotate_left
                  · show Act.put _ (some 35) _ = _
                    simp only [Act.put, List.setIfInBounds_toArray, List.set_cons_zero, List.set_cons_succ, i64_w, i32_w]
                    rfl
                  refine pure_ (i := 18) (N := some 36) (v := ?_) (a' := ?_) #[true, true, true, true, true, true, true, true, true, true, true, true, true, true, true, true, true, true, true, false, false, false] rfl rfl (any_of HT_.out (by kernel_rfl)) (fun _ _ _ h => h) (Or.inl ⟨by rfl, ?_⟩) ?_ ?_
                  rotate_left
                  · intro w'
                    go_simp
                    with_reducible rfl
                  rotate_left
                  · simp only [Act.put, List.setIfInBounds_toArray, List.set_cons_zero, List.set_cons_succ, i64_w, i32_w]
                    rfl
                  refine one_ (i := 19) (N := some 37) #[true, true, true, true, true, true, true, true, true, true, true, true, true, true, true, true, true, true, true, true, false, false] rfl rfl (one_of HT_.out (by kernel_rfl)) (by decide) (fun K hK => ?_)
                  refine value_ (w1 := ?_) (v := ?_) (by rfl) rfl ?_ ?_
                  rotate_left 2
                  · go_simp
                    constructor
                    · rfl
                    · rfl
                  refine hK.out _ _ ⟨(World.cell?_alloc_lt _ _ _ (World.block_lt_of_cell? _ _ (((HB.out.cell (World.block_lt_of_cell? w _ hw183_0)).trans hw183_0)))).trans (((HB.out.cell (World.block_lt_of_cell? w _ hw183_0)).trans hw183_0)), (World.cell?_alloc_lt _ _ _ (World.block_lt_of_cell? _ _ (((HB.out.cell (World.block_lt_of_cell? w _ hw183_1)).trans hw183_1)))).trans (((HB.out.cell (World.block_lt_of_cell? w _ hw183_1)).trans hw183_1)), (World.cell?_alloc_lt _ _ _ (World.block_lt_of_cell? _ _ (((HB.out.cell (World.block_lt_of_cell? w _ hw183_2)).trans hw183_2)))).trans (((HB.out.cell (World.block_lt_of_cell? w _ hw183_2)).trans hw183_2)), (World.cell?_alloc_lt _ _ _ (World.block_lt_of_cell? _ _ (((HB.out.cell (World.block_lt_of_cell? w _ hw185_0)).trans hw185_0)))).trans (((HB.out.cell (World.block_lt_of_cell? w _ hw185_0)).trans hw185_0)), (World.cell?_alloc_lt _ _ _ (World.block_lt_of_cell? _ _ (((HB.out.cell (World.block_lt_of_cell? w _ hw185_1)).trans hw185_1)))).trans (((HB.out.cell (World.block_lt_of_cell? w _ hw185_1)).trans hw185_1)), (World.cell?_alloc_lt _ _ _ (World.block_lt_of_cell? _ _ (((HB.out.cell (World.block_lt_of_cell? w _ hw185_2)).trans hw185_2)))).trans (((HB.out.cell (World.block_lt_of_cell? w _ hw185_2)).trans hw185_2)), (World.cell?_alloc_lt _ _ _ (World.block_lt_of_cell? _ _ (((HB.out.cell (World.block_lt_of_cell? w _ hw186_0)).trans hw186_0)))).trans (((HB.out.cell (World.block_lt_of_cell? w _ hw186_0)).trans hw186_0)), (World.cell?_alloc_lt _ _ _ (World.block_lt_of_cell? _ _ (((HB.out.cell (World.block_lt_of_cell? w _ hw186_1)).trans hw186_1)))).trans (((HB.out.cell (World.block_lt_of_cell? w _ hw186_1)).trans hw186_1)), (World.cell?_alloc_lt _ _ _ (World.block_lt_of_cell? _ _ (((HB.out.cell (World.block_lt_of_cell? w _ hw186_2)).trans hw186_2)))).trans (((HB.out.cell (World.block_lt_of_cell? w _ hw186_2)).trans hw186_2))⟩ (fun hHeld => ?_)
                  clear hK K
                  refine norm_ (a' := ?_) ?_ ?_
                  rotate_left
                  · show Act.put _ (some 37) _ = _
                    simp only [Act.put, List.setIfInBounds_toArray, List.set_cons_zero, List.set_cons_succ, i64_w, i32_w]
                    rfl
                  refine one_ (i := 20) (N := some 38) #[true, true, true, true, true, true, true, true, true, true, true, true, true, true, true, true, true, true, true, true, true, false] rfl rfl (one_of HT_.out (by kernel_rfl)) (by decide) (fun K hK => ?_)
                  refine Kd.R_append_step k101 (w0 := w) w.heap.size (by rfl) (.tmp 18) (.tmp 37) 40 101 (.agg #[(.string ⟨#[]⟩), (.bool false), (.string ⟨#[]⟩)]) 40 rfl Tryd.underlying40 info101 rfl (by decide) (by omega) u5 x5_1 (⟨t184, (rd_T101 l0 x6_1).f1, t187⟩ : S101) [.string t184, .bool ((rd_T101 l0 x6_1).f1), .string t187] (fun _ => True) (fun _ => False) rfl rfl ?aP (fun _ hk => hk.elim) ?aF ?aO ?aB ?aS ?aL ?_
                  (case aP => exact k101_mkM _ _ _ (⟨t184, (rd_T101 l0 x6_1).f1, t187⟩ : S101))
                  (case aB => exact (by repeat (first | (with_reducible first | exact HB.out | apply below_alloc | apply pw_below_drewN | apply below_drew1) | exact HB.out)))
                  (case aF => exact (fun _ _ => trivial))
                  (case aO => exact (by (with_reducible repeat (first | apply Kd.R_alloc | apply Kd.R_drewN | apply Kd.R_drew)); exact HO_5.out))
                  (case aS => exact (below_size (by repeat (first | (with_reducible first | exact HB.out | apply below_alloc | apply pw_below_drewN | apply below_drew1) | exact HB.out))))
                  (case aL => have := LMc10.out; omega)
                  intro v189 w14 ho hb hg hat
                  rw [← Ny188.out] at ho
                  have n0_ := Aside0.mk (hb)
                  have n1_ := Aside0.mk (ho)
                  clear HB
                  clear HO_5
                  have HB := n0_
                  have HO190 := n1_
                  clear n0_ n1_
                  clear ho hb hg hat
                  refine hK.out _ _ ⟨((HB.out.cell (World.block_lt_of_cell? w _ hw183_0)).trans hw183_0), ((HB.out.cell (World.block_lt_of_cell? w _ hw183_1)).trans hw183_1), ((HB.out.cell (World.block_lt_of_cell? w _ hw183_2)).trans hw183_2), ((HB.out.cell (World.block_lt_of_cell? w _ hw185_0)).trans hw185_0), ((HB.out.cell (World.block_lt_of_cell? w _ hw185_1)).trans hw185_1), ((HB.out.cell (World.block_lt_of_cell? w _ hw185_2)).trans hw185_2), ((HB.out.cell (World.block_lt_of_cell? w _ hw186_0)).trans hw186_0), ((HB.out.cell (World.block_lt_of_cell? w _ hw186_1)).trans hw186_1), ((HB.out.cell (World.block_lt_of_cell? w _ hw186_2)).trans hw186_2)⟩ (fun hHeld => ?_)
                  clear hK K
                  refine norm_ (a' := ?_) ?_ ?_
                  rotate_left
                  · show Act.put _ (some 38) _ = _
                    simp only [Act.put, List.setIfInBounds_toArray, List.set_cons_zero, List.set_cons_succ, i64_w, i32_w]
                    rfl
                  refine pure_ (i := 21) (N := some 5) (v := ?_) (a' := ?_) #[true, true, true, true, true, true, true, true, true, true, true, true, true, true, true, true, true, true, true, true, true, true] rfl rfl (any_of HT_.out (by kernel_rfl)) (fun _ _ _ h => h) (Or.inl ⟨by rfl, ?_⟩) ?_ ?_
                  rotate_left
                  · intro w'
                    go_simp
                    with_reducible rfl
                  rotate_left
                  · simp only [Act.put, List.setIfInBounds_toArray, List.set_cons_zero, List.set_cons_succ, i64_w, i32_w]
                    rfl
                  refine done_ (done_of HT_.out (by kernel_rfl)) ?_
                  try go_wp2
                  go_roundg kj2
                  case measure => have := HK1.out; have := HJ2.out; omega
                  case rel => exact ⟨(y188), (wrap64 (x6_1 + 1)), (by first | rfl | (simp; done) | (simp [*]; done)), H', ⟨by have := HK1.out; have := HJ2.out; omega⟩, ⟨by (with_reducible repeat (first | apply Kd.R_alloc | apply Kd.R_drewN | apply Kd.R_drew)); exact HO190.out⟩, ⟨by repeat (first | (with_reducible first | exact HB.out | apply below_alloc | apply pw_below_drewN | apply below_drew1) | exact HB.out)⟩⟩
                · rw [if_neg c10] at H
                  exact absurd H (by simp)
              · rw [if_neg c7] at H
                exact absurd H (by simp)
            · rw [if_neg c6] at H
              exact absurd H (by simp)
          · replace c5 := Bool.eq_false_iff.mpr c5
            subst c5
            have H1 : (some x5_1) = some r := by rw [if_neg (show ¬ (false = true) by decide)] at H; exact H
            clear H
            have H := H1
            clear H1
            obtain rfl := Option.some.inj H
            go_wp2
            go_ret
            exact ⟨_, by first | rfl | (simp [errW_none, errW_some] <;> rfl) | (simp [*, errW_none, errW_some] <;> rfl), by (with_reducible repeat (first | apply Kd.R_alloc | apply Kd.R_drewN | apply Kd.R_drew)); exact HO_5.out, by repeat (first | (with_reducible first | exact HB.out | apply below_alloc | apply pw_below_drewN | apply below_drew1) | exact HB.out)⟩
end Go.Proofs.YtfaelejeihmgcaaDoor.Lgx
end

section
namespace Go.Proofs.YtfaelejeihmgcaaDoor.Lgx
open Go.RowKit Go.Proofs.YtfaelejeihmgcaaDoorW.PrintWords Go.Proofs.YtfaelejeihmgcaaDoorW.PrintLast Go.Proofs.YtfaelejeihmgcaaDoorW.PrintMore
attribute [local go_sem] max2_int min2_int max_two min_two max_three min_three max_four min_four   -- for this text's walks alone
set_option linter.unusedVariables false
set_option linter.unusedSimpArgs false
mutual
def cachepotlaw21_short.l0 : Nat → List (S98) → Int → Int → Int → List (S101) → List (S98) → List ByteArray → Option (Int × Int × (List (S101)) × (List (S98)) × List ByteArray)
  | 0, _, _, _, _, _, _, _ => none
  | k + 1, x3, x4, x192000, x192001, x192002, x192003, x192004 => if x4 < (x192003.length : Int) then (cachepotlaw21_short.j1 k x3 x4 (decide (x4 < 6)) x192000 x192001 x192002 x192003 x192004) else (cachepotlaw21_short.j1 k x3 x4 false x192000 x192001 x192002 x192003 x192004)
def cachepotlaw21_short.j1 : Nat → List (S98) → Int → Bool → Int → Int → List (S101) → List (S98) → List ByteArray → Option (Int × Int × (List (S101)) × (List (S98)) × List ByteArray)
  | 0, _, _, _, _, _, _, _, _ => none
  | k + 1, x3, x4, x26, x192000, x192001, x192002, x192003, x192004 => if x26 = true then (if 0 ≤ x4 then (if x4 < (x192003.length : Int) then ((cachepotbook_Short.f ((rd_T98 x192003 x4).f0) 40).bind fun t202 => ((cachepotbook_Short.f ((rd_T98 x192003 x4).f2) 40).bind fun t203 => (if x3.length < 2932031007402 then (cachepotlaw21_short.l0 k (x3 ++ [(⟨t202, (rd_T98 x192003 x4).f1, t203, (rd_T98 x192003 x4).f3⟩ : S98)]) (wrap64 (x4 + 1)) x192000 x192001 x192002 x192003 x192004) else (none)))) else (none)) else (none)) else (some (x192000, x192001, x192002, x3, x192004))
end
def cachepotlaw21_short.f (k : Nat) (a0_0 : Int) (a0_1 : Int) (l0_2 : List (S101)) (l0_3 : List (S98)) (l0_4 : List ByteArray) : Option (Int × Int × (List (S101)) × (List (S98)) × List ByteArray) := (cachepotbook_Pick.f a0_0 5).bind fun t193 => ((cachepotbook_Writes.f k l0_2 6).bind fun t194 => ((cachepotbook_Texts.f k l0_4 6 40).bind fun t197 => (cachepotlaw21_short.l0 k ([] : List (S98)) 0 t193 a0_1 t194 l0_3 t197)))
def cachepotlaw21_short.T9 : Bool × List (List Nat × List Nat) := (true, [([], []), ([0], [0]), ([1], [1]), ([], []), ([3], [3]), ([4, 2], [4]), ([0, 1, 2, 3, 4], []), ([6, 2, 5, 0, 1, 2, 3, 4], [2, 6]), ([0, 1, 2, 3, 4, 5, 6, 7], []), ([8, 5, 7, 0, 1, 2, 3, 4, 5, 6, 7], [5, 8])])
def cachepotlaw21_short.B9 : List Nat := [0, 1, 3, 0, 8, 31, 31, 127, 255, 511]
theorem cachepotlaw21_short.tab9 : rtab .any (opsOf Tryd.f39 9) = cachepotlaw21_short.T9 := by kernel_rfl
theorem cachepotlaw21_short.bits9 : waitsOk cachepotlaw21_short.T9.2 cachepotlaw21_short.B9 = true := by kernel_rfl
set_option maxHeartbeats 8000000 in
set_option maxRecDepth 100000 in
theorem cachepotlaw21_short.calls (k : Nat) (a0_0 : Int) (a0_1 : Int) (A0_2 : Option Addr) (c0_2 : Nat) (l0_2 : List (S101)) (A0_3 : Option Addr) (c0_3 : Nat) (l0_3 : List (S98)) (A0_4 : Option Addr) (c0_4 : Nat) (l0_4 : List ByteArray) (r1 : Int) (r2 : Int) (r3 : List (S101)) (r4 : List (S98)) (r5 : List ByteArray) (w : World) (hr0_2 : Kd.C k101 w A0_2 l0_2.length l0_2) (hc0_2 : l0_2.length ≤ c0_2) (hr0_3 : Kd.C k98 w A0_3 l0_3.length l0_3) (hc0_3 : l0_3.length ≤ c0_3) (hr0_4 : Kd.C Kd.string w A0_4 l0_4.length l0_4) (hc0_4 : l0_4.length ≤ c0_4) (h : cachepotlaw21_short.f k a0_0 a0_1 l0_2 l0_3 l0_4 = some (r1, r2, r3, r4, r5)) :
    Calls Tryd.prog 39 #[.agg #[.int .i64 a0_0, .int .u32 a0_1, .slice A0_2 l0_2.length c0_2, .slice A0_3 l0_3.length c0_3, .slice A0_4 l0_4.length c0_4]] w fun e w' => ∃ v2_ v3_ v4_ : Value, e = .returned (.agg #[.int .i64 r1, .int .u32 r2, v2_, v3_, v4_]) ∧ Kd.R k101 101 w' w.heap.size (fun _ => True) v2_ r3 ∧ Kd.R k98 98 w' w.heap.size (fun _ => True) v3_ r4 ∧ Kd.R Kd.string 9 w' w.heap.size (fun _ => True) v4_ r5 ∧ Below w.heap.size w w' := by
  have hu43 := Tryd.underlying43
  have hu98 := Tryd.underlying98
  have HR0_2 := Aside0.mk hr0_2
  have HC0_2 := Aside0.mk hc0_2
  clear hr0_2 hc0_2
  have HR0_3 := Aside0.mk hr0_3
  have HC0_3 := Aside0.mk hc0_3
  clear hr0_3 hc0_3
  have HR0_4 := Aside0.mk hr0_4
  have HC0_4 := Aside0.mk hc0_4
  clear hr0_4 hc0_4
  have HB := Aside0.mk (Below.refl w.heap.size w)
  have H : ((cachepotbook_Pick.f a0_0 5).bind fun t193 => ((cachepotbook_Writes.f k l0_2 6).bind fun t194 => ((cachepotbook_Texts.f k l0_4 6 40).bind fun t197 => (cachepotlaw21_short.l0 k ([] : List (S98)) 0 t193 a0_1 t194 l0_3 t197)))) = some (r1, r2, r3, r4, r5) := h
  clear h
  replace H := Option.bind_eq_some_iff.mp H
  obtain ⟨t193, A20, H⟩ := H
  replace H : ((cachepotbook_Writes.f k l0_2 6).bind fun t194 => ((cachepotbook_Texts.f k l0_4 6 40).bind fun t197 => (cachepotlaw21_short.l0 k ([] : List (S98)) 0 t193 a0_1 t194 l0_3 t197))) = some (r1, r2, r3, r4, r5) := H
  have A2 := Aside0.mk A20
  clear A20
  replace H := Option.bind_eq_some_iff.mp H
  obtain ⟨t194, A30, H⟩ := H
  replace H : ((cachepotbook_Texts.f k l0_4 6 40).bind fun t197 => (cachepotlaw21_short.l0 k ([] : List (S98)) 0 t193 a0_1 t194 l0_3 t197)) = some (r1, r2, r3, r4, r5) := H
  have A3 := Aside0.mk A30
  clear A30
  replace H := Option.bind_eq_some_iff.mp H
  obtain ⟨t197, A40, H⟩ := H
  replace H : (cachepotlaw21_short.l0 k ([] : List (S98)) 0 t193 a0_1 t194 l0_3 t197) = some (r1, r2, r3, r4, r5) := H
  have A4 := Aside0.mk A40
  clear A40
  have H' := Aside0.mk H
  clear H
  go_enter Tryd.func39, Tryd.ntmps39
  go_wp2_with (first | ((with_reducible refine gate_dst (N := 1) rfl ?_); refine box_event ?hg (N := 1) ?hd (cs := #[.int .i64 a0_0, .int .u32 a0_1, .slice A0_2 l0_2.length c0_2, .slice A0_3 l0_3.length c0_3, .slice A0_4 l0_4.length c0_4]) (t := 43) ?hr ?_; (case hd => rfl); (case hg => rfl); (case hr => first | (go_simp; done) | (go_simp; rfl)); intro gb191 hg w5 hbox hb; have n0_ := Aside0.mk (below_step (by repeat (first | (with_reducible first | exact HB.out | apply below_alloc | apply pw_below_drewN | apply below_drew1) | exact HB.out)) hb); have n1_ := Aside0.mk (hbox); have n2_ := Aside0.mk ((by rw [hg]; exact (below_size (by repeat (first | (with_reducible first | exact HB.out | apply below_alloc | apply pw_below_drewN | apply below_drew1) | exact HB.out))) : w.heap.size ≤ gb191)); have n3_ := Aside0.mk ((by rw [hg]; exact (below_size (by repeat (first | (with_reducible first | exact HB.out | apply below_alloc | apply pw_below_drewN | apply below_drew1) | exact HB.out))) : w.heap.size ≤ gb191)); clear HB; have HB := n0_; have BK191 := n1_; have GW191 := n2_; have GE191 := n3_; clear n0_ n1_ n2_ n3_; clear hb hbox hg) | ((with_reducible refine gate_dst (N := 2) rfl ?_); refine box_event ?hg (N := 2) ?hd (cs := #[.int .i64 0, .int .u32 0, .slice none 0 0, .slice none 0 0, .slice none 0 0]) (t := 43) ?hr ?_; (case hd => rfl); (case hg => rfl); (case hr => first | (go_simp; done) | (go_simp; rfl)); intro gb192 hg w6 hbox hb; have n0_ := Aside0.mk (blk_below (g := gb191) (o := .cells #[.int .i64 a0_0, .int .u32 a0_1, .slice A0_2 l0_2.length c0_2, .slice A0_3 l0_3.length c0_3, .slice A0_4 l0_4.length c0_4] 43 (0, 0)) (by (with_reducible repeat (first | refine blk_drewN ?_ _ | refine blk_drew ?_ | refine blk_alloc ?_ _)); exact BK191.out) hb); have n1_ := Aside0.mk (below_step (by repeat (first | (with_reducible first | exact HB.out | apply below_alloc | apply pw_below_drewN | apply below_drew1 | refine below_set ?_ GE191.out) | exact HB.out)) hb); have n2_ := Aside0.mk (hbox); have n3_ := Aside0.mk ((by rw [hg]; exact (below_size (by repeat (first | (with_reducible first | exact HB.out | apply below_alloc | apply pw_below_drewN | apply below_drew1 | refine below_set ?_ GE191.out) | exact HB.out))) : w.heap.size ≤ gb192)); have n4_ := Aside0.mk ((by rw [hg]; exact (below_size (by repeat (first | (with_reducible first | exact HB.out | apply below_alloc | apply pw_below_drewN | apply below_drew1 | refine below_set ?_ GE191.out) | exact HB.out))) : w.heap.size ≤ gb192)); have n5_ := Aside0.mk ((by rw [hg]; exact Nat.ne_of_lt (blk_lt (g := gb191) (o := .cells #[.int .i64 a0_0, .int .u32 a0_1, .slice A0_2 l0_2.length c0_2, .slice A0_3 l0_3.length c0_3, .slice A0_4 l0_4.length c0_4] 43 (0, 0)) (by (with_reducible repeat (first | refine blk_drewN ?_ _ | refine blk_drew ?_ | refine blk_alloc ?_ _)); exact BK191.out)) : gb191 ≠ gb192)); have n6_ := Aside0.mk ((by rw [hg]; exact Nat.ne_of_gt (blk_lt (g := gb191) (o := .cells #[.int .i64 a0_0, .int .u32 a0_1, .slice A0_2 l0_2.length c0_2, .slice A0_3 l0_3.length c0_3, .slice A0_4 l0_4.length c0_4] 43 (0, 0)) (by (with_reducible repeat (first | refine blk_drewN ?_ _ | refine blk_drew ?_ | refine blk_alloc ?_ _)); exact BK191.out)) : gb192 ≠ gb191)); clear BK191; clear HB; have BK191 := n0_; have HB := n1_; have BK192 := n2_; have GW192 := n3_; have GE192 := n4_; have NB191_192 := n5_; have NB192_191 := n6_; clear n0_ n1_ n2_ n3_ n4_ n5_ n6_; clear hb hbox hg; have hnb7 := NB191_192.out; have hnc7 := NB192_191.out; have hcz8_0 : w6.cell? ⟨gb191, 0, none⟩ = some (.int .i64 a0_0) := (blk_cell BK191.out 0).trans rfl; have hcz8_1 : w6.cell? ⟨gb191, 1, none⟩ = some (.int .u32 a0_1) := (blk_cell BK191.out 1).trans rfl; have hcz8_2 : w6.cell? ⟨gb191, 2, none⟩ = some (.slice A0_2 l0_2.length c0_2) := (blk_cell BK191.out 2).trans rfl; have hcz8_3 : w6.cell? ⟨gb191, 3, none⟩ = some (.slice A0_3 l0_3.length c0_3) := (blk_cell BK191.out 3).trans rfl; have hcz8_4 : w6.cell? ⟨gb191, 4, none⟩ = some (.slice A0_4 l0_4.length c0_4) := (blk_cell BK191.out 4).trans rfl; have hfz8_0 := blk_frozen BK191.out 0; have hfz8_1 := blk_frozen BK191.out 1; have hfz8_2 := blk_frozen BK191.out 2; have hfz8_3 := blk_frozen BK191.out 3; have hfz8_4 := blk_frozen BK191.out 4) | ((with_reducible refine gate_callee (f := 25) rfl ?_); refine goesL_ (some 8) rfl rfl Tryd.func25 (by kernel_rfl) rfl #[.int .i64 a0_0, .int .i64 5] rfl (by (try simp only [List.map_toArray, List.map_cons, List.map_nil]); first | done | rfl | (simp only [List.length_drop, List.length_take]; rfl)) ?_; (with_reducible refine (cachepotbook_Pick.calls a0_0 5 t193 _ A2.out).mono ?_); rintro e w' ⟨rfl, ⟨nd, rfl⟩⟩; refine ⟨_, rfl, ?_⟩; (try (rw [drewN_self w6]; generalize hq_ : World.drewN w6 _ = w6; have n0_ : Aside0 (w6.heap[gb191]? = some (.cells #[.int .i64 a0_0, .int .u32 a0_1, .slice A0_2 l0_2.length c0_2, .slice A0_3 l0_3.length c0_3, .slice A0_4 l0_4.length c0_4] 43 (0, 0))) := ⟨by rw [← hq_]; exact (by (with_reducible repeat (first | refine blk_drewN ?_ _ | refine blk_drew ?_ | refine blk_alloc ?_ _)); exact BK191.out)⟩; have n1_ : Aside0 (w6.heap[gb192]? = some (.cells #[.int .i64 0, .int .u32 0, .slice none 0 0, .slice none 0 0, .slice none 0 0] 43 (0, 0))) := ⟨by rw [← hq_]; exact (by (with_reducible repeat (first | refine blk_drewN ?_ _ | refine blk_drew ?_ | refine blk_alloc ?_ _)); exact BK192.out)⟩; have n2_ : Aside0 (Below w.heap.size w w6) := ⟨by rw [← hq_]; exact (by repeat (first | (with_reducible first | exact HB.out | apply below_alloc | apply pw_below_drewN | apply below_drew1 | refine below_set ?_ GE191.out | refine below_set ?_ GE192.out) | exact HB.out))⟩; clear BK191 BK192 HB hq_; have BK191 := n0_; have BK192 := n1_; have HB := n2_; clear n0_ n1_ n2_; have hqz0_0 : w6.cell? ⟨gb191, 0, none⟩ = some (.int .i64 a0_0) := (blk_cell BK191.out 0).trans rfl; have hqf0_0 := blk_frozen BK191.out 0; have hqz0_1 : w6.cell? ⟨gb191, 1, none⟩ = some (.int .u32 a0_1) := (blk_cell BK191.out 1).trans rfl; have hqf0_1 := blk_frozen BK191.out 1; have hqz0_2 : w6.cell? ⟨gb191, 2, none⟩ = some (.slice A0_2 l0_2.length c0_2) := (blk_cell BK191.out 2).trans rfl; have hqf0_2 := blk_frozen BK191.out 2; have hqz0_3 : w6.cell? ⟨gb191, 3, none⟩ = some (.slice A0_3 l0_3.length c0_3) := (blk_cell BK191.out 3).trans rfl; have hqf0_3 := blk_frozen BK191.out 3; have hqz0_4 : w6.cell? ⟨gb191, 4, none⟩ = some (.slice A0_4 l0_4.length c0_4) := (blk_cell BK191.out 4).trans rfl; have hqf0_4 := blk_frozen BK191.out 4; have hqz1_0 : w6.cell? ⟨gb192, 0, none⟩ = some (.int .i64 0) := (blk_cell BK192.out 0).trans rfl; have hqf1_0 := blk_frozen BK192.out 0; have hqz1_1 : w6.cell? ⟨gb192, 1, none⟩ = some (.int .u32 0) := (blk_cell BK192.out 1).trans rfl; have hqf1_1 := blk_frozen BK192.out 1; have hqz1_2 : w6.cell? ⟨gb192, 2, none⟩ = some (.slice none 0 0) := (blk_cell BK192.out 2).trans rfl; have hqf1_2 := blk_frozen BK192.out 2; have hqz1_3 : w6.cell? ⟨gb192, 3, none⟩ = some (.slice none 0 0) := (blk_cell BK192.out 3).trans rfl; have hqf1_3 := blk_frozen BK192.out 3; have hqz1_4 : w6.cell? ⟨gb192, 4, none⟩ = some (.slice none 0 0) := (blk_cell BK192.out 4).trans rfl; have hqf1_4 := blk_frozen BK192.out 4))) | ((with_reducible refine gate_callee (f := 78) rfl ?_); refine goesL_ (some 12) rfl rfl Tryd.func78 (by kernel_rfl) rfl #[.slice A0_2 l0_2.length c0_2, .int .i64 6] rfl (by (try simp only [List.map_toArray, List.map_cons, List.map_nil]); first | done | rfl | (simp only [List.length_drop, List.length_take]; rfl)) ?_; (with_reducible refine (cachepotbook_Writes.calls k _ _ l0_2 6 t194 _ ?side1 ?side2 A3.out).mono ?_); (case side1 => exact Kd.C_below HR0_2.out (by repeat (first | (with_reducible first | exact HB.out | apply below_alloc | apply pw_below_drewN | apply below_drew1 | refine below_set ?_ GE191.out | refine below_set ?_ GE192.out) | exact HB.out))); (case side2 => exact HC0_2.out); rintro e w9 ⟨v195, rfl, ho0, hb⟩; refine ⟨_, rfl, ?_⟩; have n0_ := Aside0.mk (Kd.R_lower ho0 (below_size (by repeat (first | (with_reducible first | exact HB.out | apply below_alloc | apply pw_below_drewN | apply below_drew1 | refine below_set ?_ GE191.out | refine below_set ?_ GE192.out) | exact HB.out)))); have n1_ := Aside0.mk (blk_below (g := gb191) (o := .cells #[.int .i64 t193, .int .u32 a0_1, .slice A0_2 l0_2.length c0_2, .slice A0_3 l0_3.length c0_3, .slice A0_4 l0_4.length c0_4] 43 (0, 0)) (by (with_reducible repeat (first | refine blk_drewN ?_ _ | refine blk_drew ?_ | refine blk_alloc ?_ _)); refine blk_put (cs := #[.int .i64 a0_0, .int .u32 a0_1, .slice A0_2 l0_2.length c0_2, .slice A0_3 l0_3.length c0_3, .slice A0_4 l0_4.length c0_4]) ?_ 0 _ rfl; (with_reducible repeat (first | refine blk_drewN ?_ _ | refine blk_drew ?_ | refine blk_alloc ?_ _)); exact BK191.out) hb); have n2_ := Aside0.mk (blk_below (g := gb192) (o := .cells #[.int .i64 0, .int .u32 0, .slice none 0 0, .slice none 0 0, .slice none 0 0] 43 (0, 0)) (by (with_reducible repeat (first | refine blk_drewN ?_ _ | refine blk_drew ?_ | refine blk_alloc ?_ _)); refine blk_far ?_ NB192_191.out _; (with_reducible repeat (first | refine blk_drewN ?_ _ | refine blk_drew ?_ | refine blk_alloc ?_ _)); exact BK192.out) hb); have n3_ := Aside0.mk (below_step (by repeat (first | (with_reducible first | exact HB.out | apply below_alloc | apply pw_below_drewN | apply below_drew1 | refine below_set ?_ GE191.out | refine below_set ?_ GE192.out) | exact HB.out)) hb); clear BK191; clear BK192; clear HB; have HO196 := n0_; have BK191 := n1_; have BK192 := n2_; have HB := n3_; clear n0_ n1_ n2_ n3_; (try clear hb); (try clear hb2); (try clear hk); (try clear hi); (try clear ho0); obtain ⟨Ao10, co10, eo10⟩ := Kd.R_slice HO196.out; subst eo10; have hcz11_0 : w9.cell? ⟨gb191, 0, none⟩ = some (.int .i64 t193) := (blk_cell BK191.out 0).trans rfl; have hcz11_1 : w9.cell? ⟨gb191, 1, none⟩ = some (.int .u32 a0_1) := (blk_cell BK191.out 1).trans rfl; have hcz11_2 : w9.cell? ⟨gb191, 2, none⟩ = some (.slice A0_2 l0_2.length c0_2) := (blk_cell BK191.out 2).trans rfl; have hcz11_3 : w9.cell? ⟨gb191, 3, none⟩ = some (.slice A0_3 l0_3.length c0_3) := (blk_cell BK191.out 3).trans rfl; have hcz11_4 : w9.cell? ⟨gb191, 4, none⟩ = some (.slice A0_4 l0_4.length c0_4) := (blk_cell BK191.out 4).trans rfl; have hfz11_0 := blk_frozen BK191.out 0; have hfz11_1 := blk_frozen BK191.out 1; have hfz11_2 := blk_frozen BK191.out 2; have hfz11_3 := blk_frozen BK191.out 3; have hfz11_4 := blk_frozen BK191.out 4) | ((with_reducible refine gate_callee (f := 24) rfl ?_); refine goesL_ (some 16) rfl rfl Tryd.func24 (by kernel_rfl) rfl #[.slice A0_4 l0_4.length c0_4, .int .i64 6, .int .i64 40] rfl (by (try simp only [List.map_toArray, List.map_cons, List.map_nil]); first | done | rfl | (simp only [List.length_drop, List.length_take]; rfl)) ?_; (with_reducible refine (cachepotbook_Texts.calls k _ _ l0_4 6 40 t197 _ ?side1 ?side2 A4.out).mono ?_); (case side1 => exact Kd.C_below HR0_4.out (by repeat (first | (with_reducible first | exact HB.out | apply below_alloc | apply pw_below_drewN | apply below_drew1 | refine below_set ?_ GE191.out | refine below_set ?_ GE192.out) | exact HB.out))); (case side2 => exact HC0_4.out); rintro e w12 ⟨v198, rfl, ho0, hb⟩; refine ⟨_, rfl, ?_⟩; have n0_ := Aside0.mk (Kd.R_below (by (with_reducible repeat (first | apply Kd.R_alloc | apply Kd.R_drewN | apply Kd.R_drew)); exact (Kd.R_mono (Kd.R_far (p := ⟨gb191, 2, none⟩) (Kd.R_types HO196.out BK191.out (by decide)) (fun _ hk => hk.2) (.slice Ao10 t194.length co10)) (fun _ h_ => h_.1))) hb); have n1_ := Aside0.mk (Kd.R_lower ho0 (below_size (by repeat (first | (with_reducible first | exact HB.out | apply below_alloc | apply pw_below_drewN | apply below_drew1 | refine below_set ?_ GE191.out | refine below_set ?_ GE192.out) | exact HB.out)))); have n2_ := Aside0.mk (blk_below (g := gb191) (o := .cells #[.int .i64 t193, .int .u32 a0_1, .slice Ao10 t194.length co10, .slice A0_3 l0_3.length c0_3, .slice A0_4 l0_4.length c0_4] 43 (0, 0)) (by (with_reducible repeat (first | refine blk_drewN ?_ _ | refine blk_drew ?_ | refine blk_alloc ?_ _)); refine blk_put (cs := #[.int .i64 t193, .int .u32 a0_1, .slice A0_2 l0_2.length c0_2, .slice A0_3 l0_3.length c0_3, .slice A0_4 l0_4.length c0_4]) ?_ 2 _ rfl; (with_reducible repeat (first | refine blk_drewN ?_ _ | refine blk_drew ?_ | refine blk_alloc ?_ _)); exact BK191.out) hb); have n3_ := Aside0.mk (blk_below (g := gb192) (o := .cells #[.int .i64 0, .int .u32 0, .slice none 0 0, .slice none 0 0, .slice none 0 0] 43 (0, 0)) (by (with_reducible repeat (first | refine blk_drewN ?_ _ | refine blk_drew ?_ | refine blk_alloc ?_ _)); refine blk_far ?_ NB192_191.out _; (with_reducible repeat (first | refine blk_drewN ?_ _ | refine blk_drew ?_ | refine blk_alloc ?_ _)); exact BK192.out) hb); have n4_ := Aside0.mk (below_step (by repeat (first | (with_reducible first | exact HB.out | apply below_alloc | apply pw_below_drewN | apply below_drew1 | refine below_set ?_ GE191.out | refine below_set ?_ GE192.out) | exact HB.out)) hb); clear HO196; clear BK191; clear BK192; clear HB; have HO196 := n0_; have HO199 := n1_; have BK191 := n2_; have BK192 := n3_; have HB := n4_; clear n0_ n1_ n2_ n3_ n4_; (try clear hb); (try clear hb2); (try clear hk); (try clear hi); (try clear ho0); obtain ⟨Ao13, co13, eo13⟩ := Kd.R_slice HO199.out; subst eo13; have hcz14_0 : w12.cell? ⟨gb191, 0, none⟩ = some (.int .i64 t193) := (blk_cell BK191.out 0).trans rfl; have hcz14_1 : w12.cell? ⟨gb191, 1, none⟩ = some (.int .u32 a0_1) := (blk_cell BK191.out 1).trans rfl; have hcz14_2 : w12.cell? ⟨gb191, 2, none⟩ = some (.slice Ao10 t194.length co10) := (blk_cell BK191.out 2).trans rfl; have hcz14_3 : w12.cell? ⟨gb191, 3, none⟩ = some (.slice A0_3 l0_3.length c0_3) := (blk_cell BK191.out 3).trans rfl; have hcz14_4 : w12.cell? ⟨gb191, 4, none⟩ = some (.slice A0_4 l0_4.length c0_4) := (blk_cell BK191.out 4).trans rfl; have hfz14_0 := blk_frozen BK191.out 0; have hfz14_1 := blk_frozen BK191.out 1; have hfz14_2 := blk_frozen BK191.out 2; have hfz14_3 := blk_frozen BK191.out 3; have hfz14_4 := blk_frozen BK191.out 4))
  go_loopg [3, 4] k (fun kq v3 v4 w' => ∃ (x3_1 : List (S98)) (x4_1 : Int), v4 = .int .i64 x4_1 ∧ Aside0 (cachepotlaw21_short.l0 kq x3_1 x4_1 t193 a0_1 t194 l0_3 t197 = some (r1, r2, r3, r4, r5)) ∧ Aside0 (kq ≤ k) ∧ Aside0 (Kd.R k98 98 w' w.heap.size (fun _ => True) v3 x3_1) ∧ Aside0 (Kd.R k101 101 w' w.heap.size (fun _ => True) (.slice Ao10 t194.length co10) t194) ∧ Aside0 (Kd.R Kd.string 9 w' w.heap.size (fun _ => True) (.slice Ao13 t197.length co13) t197) ∧ Aside0 (w'.heap[gb191]? = some (.cells #[.int .i64 t193, .int .u32 a0_1, (.slice Ao10 t194.length co10), (.slice A0_3 l0_3.length c0_3), (.slice Ao13 t197.length co13)] 43 (0, 0))) ∧ Aside0 (w'.heap[gb192]? = some (.cells #[.int .i64 0, .int .u32 0, (.slice none 0 0), (.slice none 0 0), (.slice none 0 0)] 43 (0, 0))) ∧ Aside0 (Below w.heap.size w w'))
  case atStart => exact ⟨(([] : List (S98))), (0), (by first | rfl | (simp; done) | (simp [*]; done)), H', ⟨Nat.le_refl _⟩, ⟨by first | exact Kd.R_nil _ _ _ _ _ | exact Kd.N_nil _ _ _ _ _ | exact Kd.V_nil _ _ _ _ _ | exact Kd.Q_nil _ _ _ _ _ | exact Kd.S_nil _ _ _ _ _⟩, ⟨by (with_reducible repeat (first | apply Kd.R_alloc | apply Kd.R_drewN | apply Kd.R_drew)); exact Kd.R_mono (Kd.R_far (p := ⟨gb191, 4, none⟩) (Kd.R_types HO196.out BK191.out (by decide)) (fun _ hk => hk.2) (.slice Ao13 t197.length co13)) (fun _ hk => trivial)⟩, ⟨by (with_reducible repeat (first | apply Kd.R_alloc | apply Kd.R_drewN | apply Kd.R_drew)); exact Kd.R_mono (Kd.R_far (p := ⟨gb191, 4, none⟩) (Kd.R_types HO199.out BK191.out (by decide)) (fun _ hk => hk.2) (.slice Ao13 t197.length co13)) (fun _ hk => trivial)⟩, ⟨by (with_reducible repeat (first | refine blk_drewN ?_ _ | refine blk_drew ?_ | refine blk_alloc ?_ _)); refine blk_put (cs := #[.int .i64 t193, .int .u32 a0_1, .slice Ao10 t194.length co10, .slice A0_3 l0_3.length c0_3, .slice A0_4 l0_4.length c0_4]) ?_ 4 _ rfl; (with_reducible repeat (first | refine blk_drewN ?_ _ | refine blk_drew ?_ | refine blk_alloc ?_ _)); exact BK191.out⟩, ⟨by (with_reducible repeat (first | refine blk_drewN ?_ _ | refine blk_drew ?_ | refine blk_alloc ?_ _)); refine blk_far ?_ NB192_191.out _; (with_reducible repeat (first | refine blk_drewN ?_ _ | refine blk_drew ?_ | refine blk_alloc ?_ _)); exact BK192.out⟩, ⟨by repeat (first | (with_reducible first | exact HB.out | apply below_alloc | apply pw_below_drewN | apply below_drew1 | refine below_set ?_ GE191.out | refine below_set ?_ GE192.out) | exact HB.out)⟩⟩
  case round =>
    clear H'
    try clear c2
    try clear p2
    try clear c3
    try clear c7
    try clear hcz11_0
    try clear hcz11_1
    try clear hcz11_2
    try clear hcz11_3
    try clear hcz11_4
    try clear hcz14_0
    try clear hcz14_1
    try clear hcz14_2
    try clear hcz14_3
    try clear hcz14_4
    try clear hcz8_0
    try clear hcz8_1
    try clear hcz8_2
    try clear hcz8_3
    try clear hcz8_4
    try clear hfz11_0
    try clear hfz11_1
    try clear hfz11_2
    try clear hfz11_3
    try clear hfz11_4
    try clear hfz14_0
    try clear hfz14_1
    try clear hfz14_2
    try clear hfz14_3
    try clear hfz14_4
    try clear hfz8_0
    try clear hfz8_1
    try clear hfz8_2
    try clear hfz8_3
    try clear hfz8_4
    obtain ⟨x3_1, x4_1, rfl, HA, HK1, HO_3, HO_192002, HO_192004, BK191, BK192, HB⟩ := hrel
    cases gk with
    | zero => exact absurd HA.out (by simp [cachepotlaw21_short.l0])
    | succ k1 =>
      have H := HA.out
      clear HA
      simp only [cachepotlaw21_short.l0] at H
      have HC15 := Aside0.mk H
      clear H
      go_upto_region 6 with (fail)
      go_cut [26] (fun v26 wc => ∃ (kq : Nat) (x26_14 : Bool), v26 = .bool x26_14 ∧ Aside0 (cachepotlaw21_short.j1 kq x3_1 x4_1 x26_14 t193 a0_1 t194 l0_3 t197 = some (r1, r2, r3, r4, r5)) ∧ Aside0 (kq ≤ k1) ∧ Aside0 (Kd.R k98 98 wc w.heap.size (fun _ => True) u3 x3_1) ∧ Aside0 (Kd.R k101 101 wc w.heap.size (fun _ => True) (.slice Ao10 t194.length co10) t194) ∧ Aside0 (Kd.R Kd.string 9 wc w.heap.size (fun _ => True) (.slice Ao13 t197.length co13) t197) ∧ Aside0 (wc.heap[gb191]? = some (.cells #[.int .i64 t193, .int .u32 a0_1, (.slice Ao10 t194.length co10), (.slice A0_3 l0_3.length c0_3), (.slice Ao13 t197.length co13)] 43 (0, 0))) ∧ Aside0 (wc.heap[gb192]? = some (.cells #[.int .i64 0, .int .u32 0, (.slice none 0 0), (.slice none 0 0), (.slice none 0 0)] 43 (0, 0))) ∧ Aside0 (Below w.heap.size w wc))
      case first =>
        have H := HC15.out
        clear HC15
        by_cases c16 : x4_1 < (l0_3.length : Int)
        · rw [if_pos c16] at H
          have c16b0 : decide (x4_1 < (l0_3.length : Int)) = true := decide_eq_true c16
          clear c16
          (first | rw [c16b0] | (simp only [i64_w, i32_w]; rw [c16b0]) | skip)
          have H' := Aside0.mk H
          clear H
          have hnb17 := NB191_192.out
          have hnc17 := NB192_191.out
          have hcz18_0 : wr.cell? ⟨gb191, 0, none⟩ = some (.int .i64 t193) := (blk_cell BK191.out 0).trans rfl
          have hcz18_1 : wr.cell? ⟨gb191, 1, none⟩ = some (.int .u32 a0_1) := (blk_cell BK191.out 1).trans rfl
          have hcz18_2 : wr.cell? ⟨gb191, 2, none⟩ = some (.slice Ao10 t194.length co10) := (blk_cell BK191.out 2).trans rfl
          have hcz18_3 : wr.cell? ⟨gb191, 3, none⟩ = some (.slice A0_3 l0_3.length c0_3) := (blk_cell BK191.out 3).trans rfl
          have hcz18_4 : wr.cell? ⟨gb191, 4, none⟩ = some (.slice Ao13 t197.length co13) := (blk_cell BK191.out 4).trans rfl
          have hfz18_0 := blk_frozen BK191.out 0
          have hfz18_1 := blk_frozen BK191.out 1
          have hfz18_2 := blk_frozen BK191.out 2
          have hfz18_3 := blk_frozen BK191.out 3
          have hfz18_4 := blk_frozen BK191.out 4
          go_wp2
          go_meet
          case rel => exact ⟨_, (decide (x4_1 < 6)), (by first | rfl | (simp; done) | (simp [*]; done)), H', ⟨by have := HK1.out; first | omega | exact Nat.le_refl _⟩, ⟨by (with_reducible repeat (first | apply Kd.R_alloc | apply Kd.R_drewN | apply Kd.R_drew)); exact HO_3.out⟩, ⟨by (with_reducible repeat (first | apply Kd.R_alloc | apply Kd.R_drewN | apply Kd.R_drew)); exact HO_192002.out⟩, ⟨by (with_reducible repeat (first | apply Kd.R_alloc | apply Kd.R_drewN | apply Kd.R_drew)); exact HO_192004.out⟩, ⟨by (with_reducible repeat (first | refine blk_drewN ?_ _ | refine blk_drew ?_ | refine blk_alloc ?_ _)); exact BK191.out⟩, ⟨by (with_reducible repeat (first | refine blk_drewN ?_ _ | refine blk_drew ?_ | refine blk_alloc ?_ _)); exact BK192.out⟩, ⟨by repeat (first | (with_reducible first | exact HB.out | apply below_alloc | apply pw_below_drewN | apply below_drew1 | refine below_set ?_ GE191.out | refine below_set ?_ GE192.out) | exact HB.out)⟩⟩
        · rw [if_neg c16] at H
          have c16b0 : decide (x4_1 < (l0_3.length : Int)) = false := decide_eq_false c16
          clear c16
          (first | rw [c16b0] | (simp only [i64_w, i32_w]; rw [c16b0]) | skip)
          have H' := Aside0.mk H
          clear H
          have hnb19 := NB191_192.out
          have hnc19 := NB192_191.out
          have hcz20_0 : wr.cell? ⟨gb191, 0, none⟩ = some (.int .i64 t193) := (blk_cell BK191.out 0).trans rfl
          have hcz20_1 : wr.cell? ⟨gb191, 1, none⟩ = some (.int .u32 a0_1) := (blk_cell BK191.out 1).trans rfl
          have hcz20_2 : wr.cell? ⟨gb191, 2, none⟩ = some (.slice Ao10 t194.length co10) := (blk_cell BK191.out 2).trans rfl
          have hcz20_3 : wr.cell? ⟨gb191, 3, none⟩ = some (.slice A0_3 l0_3.length c0_3) := (blk_cell BK191.out 3).trans rfl
          have hcz20_4 : wr.cell? ⟨gb191, 4, none⟩ = some (.slice Ao13 t197.length co13) := (blk_cell BK191.out 4).trans rfl
          have hfz20_0 := blk_frozen BK191.out 0
          have hfz20_1 := blk_frozen BK191.out 1
          have hfz20_2 := blk_frozen BK191.out 2
          have hfz20_3 := blk_frozen BK191.out 3
          have hfz20_4 := blk_frozen BK191.out 4
          go_wp2
          go_meet
          case rel => exact ⟨_, (false), (by first | rfl | (simp; done) | (simp [*]; done)), H', ⟨by have := HK1.out; first | omega | exact Nat.le_refl _⟩, ⟨by (with_reducible repeat (first | apply Kd.R_alloc | apply Kd.R_drewN | apply Kd.R_drew)); exact HO_3.out⟩, ⟨by (with_reducible repeat (first | apply Kd.R_alloc | apply Kd.R_drewN | apply Kd.R_drew)); exact HO_192002.out⟩, ⟨by (with_reducible repeat (first | apply Kd.R_alloc | apply Kd.R_drewN | apply Kd.R_drew)); exact HO_192004.out⟩, ⟨by (with_reducible repeat (first | refine blk_drewN ?_ _ | refine blk_drew ?_ | refine blk_alloc ?_ _)); exact BK191.out⟩, ⟨by (with_reducible repeat (first | refine blk_drewN ?_ _ | refine blk_drew ?_ | refine blk_alloc ?_ _)); exact BK192.out⟩, ⟨by repeat (first | (with_reducible first | exact HB.out | apply below_alloc | apply pw_below_drewN | apply below_drew1 | refine below_set ?_ GE191.out | refine below_set ?_ GE192.out) | exact HB.out)⟩⟩
      case rest =>
        clear HC15
        try clear c1
        try clear c2
        try clear p2
        try clear c3
        try clear c7
        try clear c16
        try clear c16b0
        try clear c17
        try clear c19
        try clear hcz11_0
        try clear hcz11_1
        try clear hcz11_2
        try clear hcz11_3
        try clear hcz11_4
        try clear hcz14_0
        try clear hcz14_1
        try clear hcz14_2
        try clear hcz14_3
        try clear hcz14_4
        try clear hcz18_0
        try clear hcz18_1
        try clear hcz18_2
        try clear hcz18_3
        try clear hcz18_4
        try clear hcz20_0
        try clear hcz20_1
        try clear hcz20_2
        try clear hcz20_3
        try clear hcz20_4
        try clear hcz8_0
        try clear hcz8_1
        try clear hcz8_2
        try clear hcz8_3
        try clear hcz8_4
        try clear hfz11_0
        try clear hfz11_1
        try clear hfz11_2
        try clear hfz11_3
        try clear hfz11_4
        try clear hfz14_0
        try clear hfz14_1
        try clear hfz14_2
        try clear hfz14_3
        try clear hfz14_4
        try clear hfz18_0
        try clear hfz18_1
        try clear hfz18_2
        try clear hfz18_3
        try clear hfz18_4
        try clear hfz20_0
        try clear hfz20_1
        try clear hfz20_2
        try clear hfz20_3
        try clear hfz20_4
        try clear hfz8_0
        try clear hfz8_1
        try clear hfz8_2
        try clear hfz8_3
        try clear hfz8_4
        try clear p2
        obtain ⟨kq, x26_14, rfl, HA, HJ14, HO_3, HO_192002, HO_192004, BK191, BK192, HB⟩ := hcut
        cases kq with
        | zero => exact absurd HA.out (by simp [cachepotlaw21_short.j1])
        | succ kj14 =>
          have H := HA.out
          clear HA
          simp only [cachepotlaw21_short.j1] at H
          by_cases c21 : x26_14 = true
          · subst c21
            have H1 : (if 0 ≤ x4_1 then (if x4_1 < (l0_3.length : Int) then ((cachepotbook_Short.f ((rd_T98 l0_3 x4_1).f0) 40).bind fun t202 => ((cachepotbook_Short.f ((rd_T98 l0_3 x4_1).f2) 40).bind fun t203 => (if x3_1.length < 2932031007402 then (cachepotlaw21_short.l0 kj14 (x3_1 ++ [(⟨t202, (rd_T98 l0_3 x4_1).f1, t203, (rd_T98 l0_3 x4_1).f3⟩ : S98)]) (wrap64 (x4_1 + 1)) t193 a0_1 t194 l0_3 t197) else (none)))) else (none)) else (none)) = some (r1, r2, r3, r4, r5) := by rw [if_pos rfl] at H; exact H
            clear H
            have H := H1
            clear H1
            by_cases c22 : 0 ≤ x4_1
            · rw [if_pos c22] at H
              have c22b0 : decide (0 ≤ x4_1) = true := decide_eq_true c22
              clear c22
              by_cases c23 : x4_1 < (l0_3.length : Int)
              · rw [if_pos c23] at H
                have c23b0 : decide (x4_1 < (l0_3.length : Int)) = true := decide_eq_true c23
                clear c23
                replace H := Option.bind_eq_some_iff.mp H
                obtain ⟨t202, A240, H⟩ := H
                replace H : ((cachepotbook_Short.f ((rd_T98 l0_3 x4_1).f2) 40).bind fun t203 => (if x3_1.length < 2932031007402 then (cachepotlaw21_short.l0 kj14 (x3_1 ++ [(⟨t202, (rd_T98 l0_3 x4_1).f1, t203, (rd_T98 l0_3 x4_1).f3⟩ : S98)]) (wrap64 (x4_1 + 1)) t193 a0_1 t194 l0_3 t197) else (none))) = some (r1, r2, r3, r4, r5) := H
                have A24 := Aside0.mk A240
                clear A240
                replace H := Option.bind_eq_some_iff.mp H
                obtain ⟨t203, A250, H⟩ := H
                replace H : (if x3_1.length < 2932031007402 then (cachepotlaw21_short.l0 kj14 (x3_1 ++ [(⟨t202, (rd_T98 l0_3 x4_1).f1, t203, (rd_T98 l0_3 x4_1).f3⟩ : S98)]) (wrap64 (x4_1 + 1)) t193 a0_1 t194 l0_3 t197) else (none)) = some (r1, r2, r3, r4, r5) := H
                have A25 := Aside0.mk A250
                clear A250
                by_cases c26 : x3_1.length < 2932031007402
                · rw [if_pos c26] at H
                  have LMc26 := Aside0.mk c26
                  clear c26
                  obtain ⟨y204, hy204⟩ : ∃ y_ : List (S98), y_ = (x3_1 ++ [(⟨t202, (rd_T98 l0_3 x4_1).f1, t203, (rd_T98 l0_3 x4_1).f3⟩ : S98)]) := ⟨_, rfl⟩
                  replace H : (cachepotlaw21_short.l0 kj14 y204 (wrap64 (x4_1 + 1)) t193 a0_1 t194 l0_3 t197) = some (r1, r2, r3, r4, r5) := by first | (rw [hy204]; with_reducible exact H) | (have H2_ := (Option.bind_some _ _).symm.trans H; rw [hy204]; with_reducible exact H2_) | (have H2_ := (Option.bind_some _ _).symm.trans H; with_reducible exact H2_) | with_reducible exact H | (rw [hy204]; exact H) | exact H
                  have Ny204 := Aside0.mk hy204
                  clear hy204
                  have H' := Aside0.mk H
                  clear H
                  have hnb27 := NB191_192.out
                  have hnc27 := NB192_191.out
                  have hcz28_0 : wc.cell? ⟨gb191, 0, none⟩ = some (.int .i64 t193) := (blk_cell BK191.out 0).trans rfl
                  have hcz28_1 : wc.cell? ⟨gb191, 1, none⟩ = some (.int .u32 a0_1) := (blk_cell BK191.out 1).trans rfl
                  have hcz28_2 : wc.cell? ⟨gb191, 2, none⟩ = some (.slice Ao10 t194.length co10) := (blk_cell BK191.out 2).trans rfl
                  have hcz28_3 : wc.cell? ⟨gb191, 3, none⟩ = some (.slice A0_3 l0_3.length c0_3) := (blk_cell BK191.out 3).trans rfl
                  have hcz28_4 : wc.cell? ⟨gb191, 4, none⟩ = some (.slice Ao13 t197.length co13) := (blk_cell BK191.out 4).trans rfl
                  have hfz28_0 := blk_frozen BK191.out 0
                  have hfz28_1 := blk_frozen BK191.out 1
                  have hfz28_2 := blk_frozen BK191.out 2
                  have hfz28_3 := blk_frozen BK191.out 3
                  have hfz28_4 := blk_frozen BK191.out 4
                  have p200 : 0 ≤ (x4_1 : Int) := of_decide_eq_true (by first | (with_reducible assumption) | assumption)
                  have q200 : x4_1 < (l0_3.length : Int) := of_decide_eq_true (by first | (with_reducible assumption) | assumption)
                  obtain ⟨ad200, e200, hx200_0, hx200_1, hx200_2, hx200_3⟩ := at_T98 HR0_3.out x4_1 p200 q200
                  cases e200
                  replace hx200_0 := (HB.out.cell (World.block_lt_of_cell? w _ hx200_0)).trans hx200_0
                  replace hx200_1 := (HB.out.cell (World.block_lt_of_cell? w _ hx200_1)).trans hx200_1
                  replace hx200_2 := (HB.out.cell (World.block_lt_of_cell? w _ hx200_2)).trans hx200_2
                  replace hx200_3 := (HB.out.cell (World.block_lt_of_cell? w _ hx200_3)).trans hx200_3
                  replace p200 := eq_true p200
                  replace q200 := eq_true q200
                  try go_wp2_with (first | ((with_reducible refine gate_dst (N := 5) rfl ?_); refine box_event ?hg (N := 5) ?hd (cs := #[.string (⟨#[]⟩ : ByteArray), .bool false, .string (⟨#[]⟩ : ByteArray), .int .u32 0]) (t := 98) ?hr ?_; (case hd => rfl); (case hg => rfl); (case hr => first | (go_simp; done) | (go_simp; rfl)); intro gb201 hg w29 hbox hb; have n0_ := Aside0.mk (Kd.R_below (Kd.R_elderB (by (with_reducible repeat (first | apply Kd.R_alloc | apply Kd.R_drewN | apply Kd.R_drew)); exact HO_3.out) gb201 (Nat.le_of_eq hg.symm)) hb); have n1_ := Aside0.mk (Kd.R_below (by (with_reducible repeat (first | apply Kd.R_alloc | apply Kd.R_drewN | apply Kd.R_drew)); exact HO_192002.out) hb); have n2_ := Aside0.mk (Kd.R_below (by (with_reducible repeat (first | apply Kd.R_alloc | apply Kd.R_drewN | apply Kd.R_drew)); exact HO_192004.out) hb); have n3_ := Aside0.mk (blk_below (g := gb191) (o := .cells #[.int .i64 t193, .int .u32 a0_1, .slice Ao10 t194.length co10, .slice (some ad200) l0_3.length c0_3, .slice Ao13 t197.length co13] 43 (0, 0)) (by (with_reducible repeat (first | refine blk_drewN ?_ _ | refine blk_drew ?_ | refine blk_alloc ?_ _)); exact BK191.out) hb); have n4_ := Aside0.mk (blk_below (g := gb192) (o := .cells #[.int .i64 0, .int .u32 0, .slice none 0 0, .slice none 0 0, .slice none 0 0] 43 (0, 0)) (by (with_reducible repeat (first | refine blk_drewN ?_ _ | refine blk_drew ?_ | refine blk_alloc ?_ _)); exact BK192.out) hb); have n5_ := Aside0.mk (below_step (by repeat (first | (with_reducible first | exact HB.out | apply below_alloc | apply pw_below_drewN | apply below_drew1 | refine below_set ?_ GE191.out | refine below_set ?_ GE192.out) | exact HB.out)) hb); have n6_ := Aside0.mk (hbox); have n7_ := Aside0.mk ((by rw [hg]; exact (below_size (by repeat (first | (with_reducible first | exact HB.out | apply below_alloc | apply pw_below_drewN | apply below_drew1 | refine below_set ?_ GE191.out | refine below_set ?_ GE192.out) | exact HB.out))) : w.heap.size ≤ gb201)); have n8_ := Aside0.mk ((by rw [hg]; exact (below_size (by repeat (first | (with_reducible first | exact HB.out | apply below_alloc | apply pw_below_drewN | apply below_drew1 | refine below_set ?_ GE191.out | refine below_set ?_ GE192.out) | exact HB.out))) : w.heap.size ≤ gb201)); have n9_ := Aside0.mk ((by rw [hg]; exact Nat.ne_of_lt (blk_lt (g := gb191) (o := .cells #[.int .i64 t193, .int .u32 a0_1, .slice Ao10 t194.length co10, .slice (some ad200) l0_3.length c0_3, .slice Ao13 t197.length co13] 43 (0, 0)) (by (with_reducible repeat (first | refine blk_drewN ?_ _ | refine blk_drew ?_ | refine blk_alloc ?_ _)); exact BK191.out)) : gb191 ≠ gb201)); have n10_ := Aside0.mk ((by rw [hg]; exact Nat.ne_of_gt (blk_lt (g := gb191) (o := .cells #[.int .i64 t193, .int .u32 a0_1, .slice Ao10 t194.length co10, .slice (some ad200) l0_3.length c0_3, .slice Ao13 t197.length co13] 43 (0, 0)) (by (with_reducible repeat (first | refine blk_drewN ?_ _ | refine blk_drew ?_ | refine blk_alloc ?_ _)); exact BK191.out)) : gb201 ≠ gb191)); have n11_ := Aside0.mk ((by rw [hg]; exact Nat.ne_of_lt (blk_lt (g := gb192) (o := .cells #[.int .i64 0, .int .u32 0, .slice none 0 0, .slice none 0 0, .slice none 0 0] 43 (0, 0)) (by (with_reducible repeat (first | refine blk_drewN ?_ _ | refine blk_drew ?_ | refine blk_alloc ?_ _)); exact BK192.out)) : gb192 ≠ gb201)); have n12_ := Aside0.mk ((by rw [hg]; exact Nat.ne_of_gt (blk_lt (g := gb192) (o := .cells #[.int .i64 0, .int .u32 0, .slice none 0 0, .slice none 0 0, .slice none 0 0] 43 (0, 0)) (by (with_reducible repeat (first | refine blk_drewN ?_ _ | refine blk_drew ?_ | refine blk_alloc ?_ _)); exact BK192.out)) : gb201 ≠ gb192)); clear HO_3; clear HO_192002; clear HO_192004; clear BK191; clear BK192; clear HB; have HO_3 := n0_; have HO_192002 := n1_; have HO_192004 := n2_; have BK191 := n3_; have BK192 := n4_; have HB := n5_; have BK201 := n6_; have GW201 := n7_; have GE201 := n8_; have NB191_201 := n9_; have NB201_191 := n10_; have NB192_201 := n11_; have NB201_192 := n12_; clear n0_ n1_ n2_ n3_ n4_ n5_ n6_ n7_ n8_ n9_ n10_ n11_ n12_; clear hb hbox hg; have hnb30 := NB201_191.out; have hnc30 := NB191_201.out; have hnb31 := NB201_192.out; have hnc31 := NB192_201.out; have hcz32_0 : w29.cell? ⟨gb201, 0, none⟩ = some (.string (⟨#[]⟩ : ByteArray)) := (blk_cell BK201.out 0).trans rfl; have hcz32_1 : w29.cell? ⟨gb201, 1, none⟩ = some (.bool false) := (blk_cell BK201.out 1).trans rfl; have hcz32_2 : w29.cell? ⟨gb201, 2, none⟩ = some (.string (⟨#[]⟩ : ByteArray)) := (blk_cell BK201.out 2).trans rfl; have hcz32_3 : w29.cell? ⟨gb201, 3, none⟩ = some (.int .u32 0) := (blk_cell BK201.out 3).trans rfl; have hfz32_0 := blk_frozen BK201.out 0; have hfz32_1 := blk_frozen BK201.out 1; have hfz32_2 := blk_frozen BK201.out 2; have hfz32_3 := blk_frozen BK201.out 3))
                  have n0_ : Aside0 (Kd.R k98 98 ((((w29.setCell ⟨gb201, 0, none⟩ (.string ((rd_T98 l0_3 x4_1).f0))).setCell ⟨gb201, 1, none⟩ (.bool ((rd_T98 l0_3 x4_1).f1))).setCell ⟨gb201, 2, none⟩ (.string ((rd_T98 l0_3 x4_1).f2))).setCell ⟨gb201, 3, none⟩ (.int .u32 ((rd_T98 l0_3 x4_1).f3))) w.heap.size (fun k_ => k_ ≠ gb201) u3 x3_1) := ⟨by (with_reducible repeat (first | apply Kd.R_alloc | apply Kd.R_drewN | apply Kd.R_drew)); exact Kd.R_mono (Kd.R_far (p := ⟨gb201, 3, none⟩) (Kd.R_far (p := ⟨gb201, 2, none⟩) (Kd.R_far (p := ⟨gb201, 1, none⟩) (Kd.R_far (p := ⟨gb201, 0, none⟩) (Kd.R_mono HO_3.out (fun k_ hk => (⟨hk, hk.2⟩ : _ ∧ k_ ≠ gb201))) (fun _ hk => hk.2) (.string ((rd_T98 l0_3 x4_1).f0))) (fun _ hk => hk.2) (.bool ((rd_T98 l0_3 x4_1).f1))) (fun _ hk => hk.2) (.string ((rd_T98 l0_3 x4_1).f2))) (fun _ hk => hk.2) (.int .u32 ((rd_T98 l0_3 x4_1).f3))) (fun _ hk => hk.1.2)⟩
                  have n1_ : Aside0 (Kd.R k101 101 ((((w29.setCell ⟨gb201, 0, none⟩ (.string ((rd_T98 l0_3 x4_1).f0))).setCell ⟨gb201, 1, none⟩ (.bool ((rd_T98 l0_3 x4_1).f1))).setCell ⟨gb201, 2, none⟩ (.string ((rd_T98 l0_3 x4_1).f2))).setCell ⟨gb201, 3, none⟩ (.int .u32 ((rd_T98 l0_3 x4_1).f3))) w.heap.size (fun _ => True) (.slice Ao10 t194.length co10) t194) := ⟨by (with_reducible repeat (first | apply Kd.R_alloc | apply Kd.R_drewN | apply Kd.R_drew)); exact Kd.R_mono (Kd.R_far (p := ⟨gb201, 3, none⟩) (Kd.R_far (p := ⟨gb201, 2, none⟩) (Kd.R_far (p := ⟨gb201, 1, none⟩) (Kd.R_far (p := ⟨gb201, 0, none⟩) (Kd.R_types HO_192002.out BK201.out (by decide)) (fun _ hk => hk.2) (.string ((rd_T98 l0_3 x4_1).f0))) (fun _ hk => hk.2) (.bool ((rd_T98 l0_3 x4_1).f1))) (fun _ hk => hk.2) (.string ((rd_T98 l0_3 x4_1).f2))) (fun _ hk => hk.2) (.int .u32 ((rd_T98 l0_3 x4_1).f3))) (fun _ hk => trivial)⟩
                  have n2_ : Aside0 (Kd.R Kd.string 9 ((((w29.setCell ⟨gb201, 0, none⟩ (.string ((rd_T98 l0_3 x4_1).f0))).setCell ⟨gb201, 1, none⟩ (.bool ((rd_T98 l0_3 x4_1).f1))).setCell ⟨gb201, 2, none⟩ (.string ((rd_T98 l0_3 x4_1).f2))).setCell ⟨gb201, 3, none⟩ (.int .u32 ((rd_T98 l0_3 x4_1).f3))) w.heap.size (fun _ => True) (.slice Ao13 t197.length co13) t197) := ⟨by (with_reducible repeat (first | apply Kd.R_alloc | apply Kd.R_drewN | apply Kd.R_drew)); exact Kd.R_mono (Kd.R_far (p := ⟨gb201, 3, none⟩) (Kd.R_far (p := ⟨gb201, 2, none⟩) (Kd.R_far (p := ⟨gb201, 1, none⟩) (Kd.R_far (p := ⟨gb201, 0, none⟩) (Kd.R_types HO_192004.out BK201.out (by decide)) (fun _ hk => hk.2) (.string ((rd_T98 l0_3 x4_1).f0))) (fun _ hk => hk.2) (.bool ((rd_T98 l0_3 x4_1).f1))) (fun _ hk => hk.2) (.string ((rd_T98 l0_3 x4_1).f2))) (fun _ hk => hk.2) (.int .u32 ((rd_T98 l0_3 x4_1).f3))) (fun _ hk => trivial)⟩
                  have n3_ : Aside0 (((((w29.setCell ⟨gb201, 0, none⟩ (.string ((rd_T98 l0_3 x4_1).f0))).setCell ⟨gb201, 1, none⟩ (.bool ((rd_T98 l0_3 x4_1).f1))).setCell ⟨gb201, 2, none⟩ (.string ((rd_T98 l0_3 x4_1).f2))).setCell ⟨gb201, 3, none⟩ (.int .u32 ((rd_T98 l0_3 x4_1).f3))).heap[gb191]? = some (.cells #[.int .i64 t193, .int .u32 a0_1, .slice Ao10 t194.length co10, .slice (some ad200) l0_3.length c0_3, .slice Ao13 t197.length co13] 43 (0, 0))) := ⟨by (with_reducible repeat (first | refine blk_drewN ?_ _ | refine blk_drew ?_ | refine blk_alloc ?_ _)); refine blk_far ?_ NB191_201.out _; (with_reducible repeat (first | refine blk_drewN ?_ _ | refine blk_drew ?_ | refine blk_alloc ?_ _)); refine blk_far ?_ NB191_201.out _; (with_reducible repeat (first | refine blk_drewN ?_ _ | refine blk_drew ?_ | refine blk_alloc ?_ _)); refine blk_far ?_ NB191_201.out _; (with_reducible repeat (first | refine blk_drewN ?_ _ | refine blk_drew ?_ | refine blk_alloc ?_ _)); refine blk_far ?_ NB191_201.out _; (with_reducible repeat (first | refine blk_drewN ?_ _ | refine blk_drew ?_ | refine blk_alloc ?_ _)); exact BK191.out⟩
                  have n4_ : Aside0 (((((w29.setCell ⟨gb201, 0, none⟩ (.string ((rd_T98 l0_3 x4_1).f0))).setCell ⟨gb201, 1, none⟩ (.bool ((rd_T98 l0_3 x4_1).f1))).setCell ⟨gb201, 2, none⟩ (.string ((rd_T98 l0_3 x4_1).f2))).setCell ⟨gb201, 3, none⟩ (.int .u32 ((rd_T98 l0_3 x4_1).f3))).heap[gb192]? = some (.cells #[.int .i64 0, .int .u32 0, .slice none 0 0, .slice none 0 0, .slice none 0 0] 43 (0, 0))) := ⟨by (with_reducible repeat (first | refine blk_drewN ?_ _ | refine blk_drew ?_ | refine blk_alloc ?_ _)); refine blk_far ?_ NB192_201.out _; (with_reducible repeat (first | refine blk_drewN ?_ _ | refine blk_drew ?_ | refine blk_alloc ?_ _)); refine blk_far ?_ NB192_201.out _; (with_reducible repeat (first | refine blk_drewN ?_ _ | refine blk_drew ?_ | refine blk_alloc ?_ _)); refine blk_far ?_ NB192_201.out _; (with_reducible repeat (first | refine blk_drewN ?_ _ | refine blk_drew ?_ | refine blk_alloc ?_ _)); refine blk_far ?_ NB192_201.out _; (with_reducible repeat (first | refine blk_drewN ?_ _ | refine blk_drew ?_ | refine blk_alloc ?_ _)); exact BK192.out⟩
                  have n5_ : Aside0 (((((w29.setCell ⟨gb201, 0, none⟩ (.string ((rd_T98 l0_3 x4_1).f0))).setCell ⟨gb201, 1, none⟩ (.bool ((rd_T98 l0_3 x4_1).f1))).setCell ⟨gb201, 2, none⟩ (.string ((rd_T98 l0_3 x4_1).f2))).setCell ⟨gb201, 3, none⟩ (.int .u32 ((rd_T98 l0_3 x4_1).f3))).heap[gb201]? = some (.cells #[.string ((rd_T98 l0_3 x4_1).f0), .bool ((rd_T98 l0_3 x4_1).f1), .string ((rd_T98 l0_3 x4_1).f2), .int .u32 ((rd_T98 l0_3 x4_1).f3)] 98 (0, 0))) := ⟨by (with_reducible repeat (first | refine blk_drewN ?_ _ | refine blk_drew ?_ | refine blk_alloc ?_ _)); refine blk_put (cs := #[.string ((rd_T98 l0_3 x4_1).f0), .bool ((rd_T98 l0_3 x4_1).f1), .string ((rd_T98 l0_3 x4_1).f2), .int .u32 0]) ?_ 3 _ rfl; (with_reducible repeat (first | refine blk_drewN ?_ _ | refine blk_drew ?_ | refine blk_alloc ?_ _)); refine blk_put (cs := #[.string ((rd_T98 l0_3 x4_1).f0), .bool ((rd_T98 l0_3 x4_1).f1), .string (⟨#[]⟩ : ByteArray), .int .u32 0]) ?_ 2 _ rfl; (with_reducible repeat (first | refine blk_drewN ?_ _ | refine blk_drew ?_ | refine blk_alloc ?_ _)); refine blk_put (cs := #[.string ((rd_T98 l0_3 x4_1).f0), .bool false, .string (⟨#[]⟩ : ByteArray), .int .u32 0]) ?_ 1 _ rfl; (with_reducible repeat (first | refine blk_drewN ?_ _ | refine blk_drew ?_ | refine blk_alloc ?_ _)); refine blk_put (cs := #[.string (⟨#[]⟩ : ByteArray), .bool false, .string (⟨#[]⟩ : ByteArray), .int .u32 0]) ?_ 0 _ rfl; (with_reducible repeat (first | refine blk_drewN ?_ _ | refine blk_drew ?_ | refine blk_alloc ?_ _)); exact BK201.out⟩
                  have n6_ : Aside0 (Below w.heap.size w ((((w29.setCell ⟨gb201, 0, none⟩ (.string ((rd_T98 l0_3 x4_1).f0))).setCell ⟨gb201, 1, none⟩ (.bool ((rd_T98 l0_3 x4_1).f1))).setCell ⟨gb201, 2, none⟩ (.string ((rd_T98 l0_3 x4_1).f2))).setCell ⟨gb201, 3, none⟩ (.int .u32 ((rd_T98 l0_3 x4_1).f3)))) := ⟨by repeat (first | (with_reducible first | exact HB.out | apply below_alloc | apply pw_below_drewN | apply below_drew1 | refine below_set ?_ GE191.out | refine below_set ?_ GE192.out | refine below_set ?_ GE201.out) | exact HB.out)⟩
                  (try clear HO_3)
                  (try clear HO_192002)
                  (try clear HO_192004)
                  (try clear BK191)
                  (try clear BK192)
                  (try clear BK201)
                  (try clear HB)
                  generalize ((((w29.setCell ⟨gb201, 0, none⟩ (.string ((rd_T98 l0_3 x4_1).f0))).setCell ⟨gb201, 1, none⟩ (.bool ((rd_T98 l0_3 x4_1).f1))).setCell ⟨gb201, 2, none⟩ (.string ((rd_T98 l0_3 x4_1).f2))).setCell ⟨gb201, 3, none⟩ (.int .u32 ((rd_T98 l0_3 x4_1).f3))) = w33 at n0_ n1_ n2_ n3_ n4_ n5_ n6_ ⊢
                  have HO_3 := n0_
                  have HO_192002 := n1_
                  have HO_192004 := n2_
                  have BK191 := n3_
                  have BK192 := n4_
                  have BK201 := n5_
                  have HB := n6_
                  clear n0_ n1_ n2_ n3_ n4_ n5_ n6_
                  have n0_ := Aside0.mk (Kd.R_drew HO_3.out)
                  have n1_ := Aside0.mk (Kd.R_drew HO_192002.out)
                  have n2_ := Aside0.mk (Kd.R_drew HO_192004.out)
                  have n3_ := Aside0.mk (blk_drew BK191.out)
                  have n4_ := Aside0.mk (blk_drew BK192.out)
                  have n5_ := Aside0.mk (blk_drew BK201.out)
                  have n6_ := Aside0.mk (below_drew1 HB.out)
                  clear HO_3
                  clear HO_192002
                  clear HO_192004
                  clear BK191
                  clear BK192
                  clear BK201
                  clear HB
                  have HO_3 := n0_
                  have HO_192002 := n1_
                  have HO_192004 := n2_
                  have BK191 := n3_
                  have BK192 := n4_
                  have BK201 := n5_
                  have HB := n6_
                  clear n0_ n1_ n2_ n3_ n4_ n5_ n6_
                  refine start_ (n := 10) (S := fun w' => w'.cell? ⟨gb201, 0, none⟩ = some (.string ((rd_T98 l0_3 x4_1).f0)) ∧ w'.cell? ⟨gb201, 1, none⟩ = some (.bool ((rd_T98 l0_3 x4_1).f1)) ∧ w'.cell? ⟨gb201, 2, none⟩ = some (.string ((rd_T98 l0_3 x4_1).f2)) ∧ w'.cell? ⟨gb201, 3, none⟩ = some (.int .u32 ((rd_T98 l0_3 x4_1).f3))) (ds := [7, 9]) #[false, false, false, false, false, false, false, false, false, false] (by kernel_rfl) rfl rfl ⟨(blk_cell BK201.out 0).trans rfl, (blk_cell BK201.out 1).trans rfl, (blk_cell BK201.out 2).trans rfl, (blk_cell BK201.out 3).trans rfl⟩ (fun hHeld => ?_); refine with_tabW cachepotlaw21_short.tab9 cachepotlaw21_short.bits9 (fun HT_ HW_ => ?_)
                  generalize w33.drew = w34 at HO_3 HO_192002 HO_192004 BK191 BK192 BK201 HB hHeld ⊢
                  refine pure_ (i := 0) (N := some 34) (v := ?_) (a' := ?_) #[true, false, false, false, false, false, false, false, false, false] rfl rfl (any_of HT_.out (by kernel_rfl)) (fun _ _ _ h => h) (Or.inl ⟨by rfl, ?_⟩) ?_ ?_
                  rotate_left
                  · intro w'
                    go_simp
                    with_reducible rfl
                  rotate_left
                  · simp only [Act.put, List.setIfInBounds_toArray, List.set_cons_zero, List.set_cons_succ, i64_w, i32_w]
                    rfl
                  refine pure_ (i := 3) (N := some 37) (v := ?_) (a' := ?_) #[true, false, false, true, false, false, false, false, false, false] rfl rfl (any_of HT_.out (by kernel_rfl)) (fun _ _ _ h => h) (Or.inl ⟨by rfl, ?_⟩) ?_ ?_
                  rotate_left
                  · intro w'
                    go_simp
                    with_reducible rfl
                  rotate_left
                  · simp only [Act.put, List.setIfInBounds_toArray, List.set_cons_zero, List.set_cons_succ, i64_w, i32_w]
                    rfl
                  refine take_ (i := 1) (N := some 35) (v := ?_) (a' := ?_) #[true, true, false, true, false, false, false, false, false, false] rfl rfl (take_ofW HT_.out HW_.out (by kernel_rfl)) (fun _ _ _ h => h) (Or.inl ⟨by rfl, ?_⟩) hHeld ?_ ?_
                  rotate_left
                  · rintro w' ⟨s0, s1, s2, s3⟩
                    go_simp
                    with_reducible rfl
                  rotate_left
                  · simp only [Act.put, List.setIfInBounds_toArray, List.set_cons_zero, List.set_cons_succ, i64_w, i32_w]
                    rfl
                  refine take_ (i := 4) (N := some 38) (v := ?_) (a' := ?_) #[true, true, false, true, true, false, false, false, false, false] rfl rfl (take_ofW HT_.out HW_.out (by kernel_rfl)) (fun _ _ _ h => h) (Or.inl ⟨by rfl, ?_⟩) hHeld ?_ ?_
                  rotate_left
                  · rintro w' ⟨s0, s1, s2, s3⟩
                    go_simp
                    with_reducible rfl
                  rotate_left
                  · simp only [Act.put, List.setIfInBounds_toArray, List.set_cons_zero, List.set_cons_succ, i64_w, i32_w]
                    rfl
                  refine one_ (i := 2) (N := some 36) #[true, true, true, true, true, false, false, false, false, false] rfl rfl (one_of HT_.out (by kernel_rfl)) (by decide) (fun K hK => ?_)
                  refine goes_ Tryd.func27 (by kernel_rfl) rfl #[.string ((rd_T98 l0_3 x4_1).f0), .int .i64 40] (by rfl) rfl rfl (by (try simp only [List.map_toArray, List.map_cons, List.map_nil]); first | done | rfl | (simp only [List.length_drop, List.length_take]; rfl)) ?_
                  with_reducible refine (cachepotbook_Short.calls ((rd_T98 l0_3 x4_1).f0) 40 t202 _ A24.out).mono ?_
                  rintro e w35 ⟨rfl, hb⟩
                  refine ⟨_, rfl, ?_⟩
                  have n0_ := Aside0.mk (Kd.R_below (by (with_reducible repeat (first | apply Kd.R_alloc | apply Kd.R_drewN | apply Kd.R_drew)); exact HO_3.out) hb)
                  have n1_ := Aside0.mk (Kd.R_below (by (with_reducible repeat (first | apply Kd.R_alloc | apply Kd.R_drewN | apply Kd.R_drew)); exact HO_192002.out) hb)
                  have n2_ := Aside0.mk (Kd.R_below (by (with_reducible repeat (first | apply Kd.R_alloc | apply Kd.R_drewN | apply Kd.R_drew)); exact HO_192004.out) hb)
                  have n3_ := Aside0.mk (blk_below (g := gb191) (o := .cells #[.int .i64 t193, .int .u32 a0_1, .slice Ao10 t194.length co10, .slice (some ad200) l0_3.length c0_3, .slice Ao13 t197.length co13] 43 (0, 0)) (by (with_reducible repeat (first | refine blk_drewN ?_ _ | refine blk_drew ?_ | refine blk_alloc ?_ _)); exact BK191.out) hb)
                  have n4_ := Aside0.mk (blk_below (g := gb192) (o := .cells #[.int .i64 0, .int .u32 0, .slice none 0 0, .slice none 0 0, .slice none 0 0] 43 (0, 0)) (by (with_reducible repeat (first | refine blk_drewN ?_ _ | refine blk_drew ?_ | refine blk_alloc ?_ _)); exact BK192.out) hb)
                  have n5_ := Aside0.mk (blk_below (g := gb201) (o := .cells #[.string ((rd_T98 l0_3 x4_1).f0), .bool ((rd_T98 l0_3 x4_1).f1), .string ((rd_T98 l0_3 x4_1).f2), .int .u32 ((rd_T98 l0_3 x4_1).f3)] 98 (0, 0)) (by (with_reducible repeat (first | refine blk_drewN ?_ _ | refine blk_drew ?_ | refine blk_alloc ?_ _)); exact BK201.out) hb)
                  have n6_ := Aside0.mk (below_step (by repeat (first | (with_reducible first | exact HB.out | apply below_alloc | apply pw_below_drewN | apply below_drew1 | refine below_set ?_ GE191.out | refine below_set ?_ GE192.out | refine below_set ?_ GE201.out) | exact HB.out)) hb)
                  clear HO_3
                  clear HO_192002
                  clear HO_192004
                  clear BK191
                  clear BK192
                  clear BK201
                  clear HB
                  have HO_3 := n0_
                  have HO_192002 := n1_
                  have HO_192004 := n2_
                  have BK191 := n3_
                  have BK192 := n4_
                  have BK201 := n5_
                  have HB := n6_
                  clear n0_ n1_ n2_ n3_ n4_ n5_ n6_
                  (try clear hb)
                  (try clear hb2)
                  (try clear hk)
                  (try clear hi)
                  refine hK.out _ _ ⟨(blk_cell BK201.out 0).trans rfl, (blk_cell BK201.out 1).trans rfl, (blk_cell BK201.out 2).trans rfl, (blk_cell BK201.out 3).trans rfl⟩ (fun hHeld => ?_)
                  clear hK K
                  refine norm_ (a' := ?_) ?_ ?_
                  rotate_left
                  · show Act.put _ (some 36) _ = _
                    simp only [Act.put, List.setIfInBounds_toArray, List.set_cons_zero, List.set_cons_succ, i64_w, i32_w]
                    rfl
                  refine pure_ (i := 6) (N := some 40) (v := ?_) (a' := ?_) #[true, true, true, true, true, false, true, false, false, false] rfl rfl (any_of HT_.out (by kernel_rfl)) (fun _ _ _ h => h) (Or.inl ⟨by rfl, ?_⟩) ?_ ?_
                  rotate_left
                  · intro w'
                    go_simp
                    with_reducible rfl
                  rotate_left
                  · simp only [Act.put, List.setIfInBounds_toArray, List.set_cons_zero, List.set_cons_succ, i64_w, i32_w]
                    rfl
                  refine one_ (i := 5) (N := some 39) #[true, true, true, true, true, true, true, false, false, false] rfl rfl (one_of HT_.out (by kernel_rfl)) (by decide) (fun K hK => ?_)
                  refine goes_ Tryd.func27 (by kernel_rfl) rfl #[.string ((rd_T98 l0_3 x4_1).f2), .int .i64 40] (by rfl) rfl rfl (by (try simp only [List.map_toArray, List.map_cons, List.map_nil]); first | done | rfl | (simp only [List.length_drop, List.length_take]; rfl)) ?_
                  with_reducible refine (cachepotbook_Short.calls ((rd_T98 l0_3 x4_1).f2) 40 t203 _ A25.out).mono ?_
                  rintro e w36 ⟨rfl, hb⟩
                  refine ⟨_, rfl, ?_⟩
                  have n0_ := Aside0.mk (Kd.R_below (by (with_reducible repeat (first | apply Kd.R_alloc | apply Kd.R_drewN | apply Kd.R_drew)); exact HO_3.out) hb)
                  have n1_ := Aside0.mk (Kd.R_below (by (with_reducible repeat (first | apply Kd.R_alloc | apply Kd.R_drewN | apply Kd.R_drew)); exact HO_192002.out) hb)
                  have n2_ := Aside0.mk (Kd.R_below (by (with_reducible repeat (first | apply Kd.R_alloc | apply Kd.R_drewN | apply Kd.R_drew)); exact HO_192004.out) hb)
                  have n3_ := Aside0.mk (blk_below (g := gb191) (o := .cells #[.int .i64 t193, .int .u32 a0_1, .slice Ao10 t194.length co10, .slice (some ad200) l0_3.length c0_3, .slice Ao13 t197.length co13] 43 (0, 0)) (by (with_reducible repeat (first | refine blk_drewN ?_ _ | refine blk_drew ?_ | refine blk_alloc ?_ _)); exact BK191.out) hb)
                  have n4_ := Aside0.mk (blk_below (g := gb192) (o := .cells #[.int .i64 0, .int .u32 0, .slice none 0 0, .slice none 0 0, .slice none 0 0] 43 (0, 0)) (by (with_reducible repeat (first | refine blk_drewN ?_ _ | refine blk_drew ?_ | refine blk_alloc ?_ _)); exact BK192.out) hb)
                  have n5_ := Aside0.mk (blk_below (g := gb201) (o := .cells #[.string ((rd_T98 l0_3 x4_1).f0), .bool ((rd_T98 l0_3 x4_1).f1), .string ((rd_T98 l0_3 x4_1).f2), .int .u32 ((rd_T98 l0_3 x4_1).f3)] 98 (0, 0)) (by (with_reducible repeat (first | refine blk_drewN ?_ _ | refine blk_drew ?_ | refine blk_alloc ?_ _)); exact BK201.out) hb)
                  have n6_ := Aside0.mk (below_step (by repeat (first | (with_reducible first | exact HB.out | apply below_alloc | apply pw_below_drewN | apply below_drew1 | refine below_set ?_ GE191.out | refine below_set ?_ GE192.out | refine below_set ?_ GE201.out) | exact HB.out)) hb)
                  clear HO_3
                  clear HO_192002
                  clear HO_192004
                  clear BK191
                  clear BK192
                  clear BK201
                  clear HB
                  have HO_3 := n0_
                  have HO_192002 := n1_
                  have HO_192004 := n2_
                  have BK191 := n3_
                  have BK192 := n4_
                  have BK201 := n5_
                  have HB := n6_
                  clear n0_ n1_ n2_ n3_ n4_ n5_ n6_
                  (try clear hb)
                  (try clear hb2)
                  (try clear hk)
                  (try clear hi)
                  refine hK.out _ _ ⟨(blk_cell BK201.out 0).trans rfl, (blk_cell BK201.out 1).trans rfl, (blk_cell BK201.out 2).trans rfl, (blk_cell BK201.out 3).trans rfl⟩ (fun hHeld => ?_)
                  clear hK K
                  refine norm_ (a' := ?_) ?_ ?_
                  rotate_left
                  · show Act.put _ (some 39) _ = _
                    simp only [Act.put, List.setIfInBounds_toArray, List.set_cons_zero, List.set_cons_succ, i64_w, i32_w]
                    rfl
                  refine last_ (i := 7) (N := none) #[true, true, true, true, true, true, true, true, false, false] rfl rfl (one_of HT_.out (by kernel_rfl)) (by decide) (fun K hK => ?_)
                  have hs37 : w36.cell? ⟨gb201, 0, none⟩ = some (.string ((rd_T98 l0_3 x4_1).f0)) := (blk_cell BK201.out 0).trans rfl
                  have hfs37 := blk_frozen BK201.out 0
                  have hns37_0 := NB191_201.out
                  have hns37_1 := NB192_201.out
                  have hms37_0 := NB201_191.out
                  have hms37_1 := NB201_192.out
                  refine skip_ (w1 := ?_) (by rfl) rfl ?_ ?_
                  rotate_left
                  · go_simp
                    rfl
                  refine hK.out _ _ ?_
                  clear hK K
                  refine pure_ (i := 8) (N := some 41) (v := ?_) (a' := ?_) #[true, true, true, true, true, true, true, true, true, false] rfl rfl (any_of HT_.out (by kernel_rfl)) (fun _ _ _ h => h) (Or.inl ⟨by rfl, ?_⟩) ?_ ?_
                  rotate_left
                  · intro w'
                    go_simp
                    with_reducible rfl
                  rotate_left
                  · simp only [Act.put, List.setIfInBounds_toArray, List.set_cons_zero, List.set_cons_succ, i64_w, i32_w]
                    rfl
                  refine last_ (i := 9) (N := none) #[true, true, true, true, true, true, true, true, true, true] rfl rfl (one_of HT_.out (by kernel_rfl)) (by decide) (fun K hK => ?_)
                  have hs38 : w36.cell? ⟨gb201, 2, none⟩ = some (.string ((rd_T98 l0_3 x4_1).f2)) := (blk_cell BK201.out 2).trans rfl
                  have hfs38 := blk_frozen BK201.out 2
                  have hns38_0 := NB191_201.out
                  have hns38_1 := NB192_201.out
                  have hms38_0 := NB201_191.out
                  have hms38_1 := NB201_192.out
                  refine skip_ (w1 := ?_) (by rfl) rfl ?_ ?_
                  rotate_left
                  · go_simp
                    rfl
                  refine hK.out _ _ ?_
                  clear hK K
                  refine done_ (done_of HT_.out (by kernel_rfl)) ?_
                  have hcz39_0 : w36.cell? ⟨gb201, 0, none⟩ = some (.string ((rd_T98 l0_3 x4_1).f0)) := (blk_cell BK201.out 0).trans rfl
                  have hcz39_1 : w36.cell? ⟨gb201, 1, none⟩ = some (.bool ((rd_T98 l0_3 x4_1).f1)) := (blk_cell BK201.out 1).trans rfl
                  have hcz39_2 : w36.cell? ⟨gb201, 2, none⟩ = some (.string ((rd_T98 l0_3 x4_1).f2)) := (blk_cell BK201.out 2).trans rfl
                  have hcz39_3 : w36.cell? ⟨gb201, 3, none⟩ = some (.int .u32 ((rd_T98 l0_3 x4_1).f3)) := (blk_cell BK201.out 3).trans rfl
                  have hfz39_0 := blk_frozen BK201.out 0
                  have hfz39_1 := blk_frozen BK201.out 1
                  have hfz39_2 := blk_frozen BK201.out 2
                  have hfz39_3 := blk_frozen BK201.out 3
                  try go_wp2_with (first | ((with_reducible refine gate_builtin (b := .append) (xs := #[.tmp 42, .tmp 44]) rfl ?_); at_builtin; refine Kd.R_append k98 (w0 := w) w.heap.size rfl (.tmp 42) (.tmp 44) 41 98 (.agg #[(.string ⟨#[]⟩), (.bool false), (.string ⟨#[]⟩), (.int .u32 0)]) 48 rfl Tryd.underlying41 info98 rfl (by decide) (by omega) u3 x3_1 (⟨t202, (rd_T98 l0_3 x4_1).f1, t203, (rd_T98 l0_3 x4_1).f3⟩ : S98) [.string t202, .bool ((rd_T98 l0_3 x4_1).f1), .string t203, .int .u32 ((rd_T98 l0_3 x4_1).f3)] (fun k_ => k_ ≠ gb201) (fun _ => False) rfl (by first | (go_simp; done) | (go_simp; rfl)) ?aP (fun _ hk => hk.elim) ?aF ?aO ?aB ?aS ?aL ?_; (case aP => exact k98_mkM _ _ _ (⟨t202, (rd_T98 l0_3 x4_1).f1, t203, (rd_T98 l0_3 x4_1).f3⟩ : S98)); (case aB => exact (by repeat (first | (with_reducible first | exact HB.out | apply below_alloc | apply pw_below_drewN | apply below_drew1 | refine below_set ?_ GE191.out | refine below_set ?_ GE192.out | refine below_set ?_ GE201.out) | exact HB.out))); (case aF => exact (fun k_ hk => Kd.freshB (g := gb201) (o := .cells #[.string t202, .bool ((rd_T98 l0_3 x4_1).f1), .string t203, .int .u32 ((rd_T98 l0_3 x4_1).f3)] 98 (0, 0)) (by (with_reducible repeat (first | refine blk_drewN ?_ _ | refine blk_drew ?_ | refine blk_alloc ?_ _)); refine blk_put (cs := #[.string t202, .bool ((rd_T98 l0_3 x4_1).f1), .string ((rd_T98 l0_3 x4_1).f2), .int .u32 ((rd_T98 l0_3 x4_1).f3)]) ?_ 2 _ rfl; (with_reducible repeat (first | refine blk_drewN ?_ _ | refine blk_drew ?_ | refine blk_alloc ?_ _)); refine blk_put (cs := #[.string ((rd_T98 l0_3 x4_1).f0), .bool ((rd_T98 l0_3 x4_1).f1), .string ((rd_T98 l0_3 x4_1).f2), .int .u32 ((rd_T98 l0_3 x4_1).f3)]) ?_ 0 _ rfl; (with_reducible repeat (first | refine blk_drewN ?_ _ | refine blk_drew ?_ | refine blk_alloc ?_ _)); exact BK201.out) k_ hk)); (case aO => exact (by (with_reducible repeat (first | apply Kd.R_alloc | apply Kd.R_drewN | apply Kd.R_drew)); exact Kd.R_mono (Kd.R_far (p := ⟨gb201, 2, none⟩) (Kd.R_far (p := ⟨gb201, 0, none⟩) (Kd.R_mono HO_3.out (fun k_ hk => (⟨hk, hk⟩ : _ ∧ k_ ≠ gb201))) (fun _ hk => hk.2) (.string t202)) (fun _ hk => hk.2) (.string t203)) (fun _ hk => hk.1))); (case aS => exact (below_size (by repeat (first | (with_reducible first | exact HB.out | apply below_alloc | apply pw_below_drewN | apply below_drew1 | refine below_set ?_ GE191.out | refine below_set ?_ GE192.out | refine below_set ?_ GE201.out) | exact HB.out)))); (case aL => have := LMc26.out; omega); intro v205 w40 ho hb hg hat; rw [← Ny204.out] at ho; have n0_ := Aside0.mk (Kd.R_over' (by (with_reducible repeat (first | apply Kd.R_alloc | apply Kd.R_drewN | apply Kd.R_drew)); exact (Kd.R_mono (Kd.R_far (p := ⟨gb201, 2, none⟩) (Kd.R_far (p := ⟨gb201, 0, none⟩) (Kd.R_types HO_192002.out BK201.out (by decide)) (fun _ hk => hk.2) (.string t202)) (fun _ hk => hk.2) (.string t203)) (fun _ h_ => h_.1))) (Kd.R_typed (by (with_reducible repeat (first | apply Kd.R_alloc | apply Kd.R_drewN | apply Kd.R_drew)); exact (Kd.R_mono (Kd.R_far (p := ⟨gb201, 2, none⟩) (Kd.R_far (p := ⟨gb201, 0, none⟩) (Kd.R_mono HO_3.out (fun k_ hk => (⟨hk, hk⟩ : _ ∧ k_ ≠ gb201))) (fun _ hk => hk.2) (.string t202)) (fun _ hk => hk.2) (.string t203)) (fun _ h_ => h_.1)))) (by decide) hg); have n1_ := Aside0.mk (Kd.R_over' (by (with_reducible repeat (first | apply Kd.R_alloc | apply Kd.R_drewN | apply Kd.R_drew)); exact (Kd.R_mono (Kd.R_far (p := ⟨gb201, 2, none⟩) (Kd.R_far (p := ⟨gb201, 0, none⟩) (Kd.R_types HO_192004.out BK201.out (by decide)) (fun _ hk => hk.2) (.string t202)) (fun _ hk => hk.2) (.string t203)) (fun _ h_ => h_.1))) (Kd.R_typed (by (with_reducible repeat (first | apply Kd.R_alloc | apply Kd.R_drewN | apply Kd.R_drew)); exact (Kd.R_mono (Kd.R_far (p := ⟨gb201, 2, none⟩) (Kd.R_far (p := ⟨gb201, 0, none⟩) (Kd.R_mono HO_3.out (fun k_ hk => (⟨hk, hk⟩ : _ ∧ k_ ≠ gb201))) (fun _ hk => hk.2) (.string t202)) (fun _ hk => hk.2) (.string t203)) (fun _ h_ => h_.1)))) (by decide) hg); have n2_ := Aside0.mk (blk_grown (g := gb191) (o := .cells #[.int .i64 t193, .int .u32 a0_1, .slice Ao10 t194.length co10, .slice (some ad200) l0_3.length c0_3, .slice Ao13 t197.length co13] 43 (0, 0)) (by (with_reducible repeat (first | refine blk_drewN ?_ _ | refine blk_drew ?_ | refine blk_alloc ?_ _)); refine blk_far ?_ NB191_201.out _; (with_reducible repeat (first | refine blk_drewN ?_ _ | refine blk_drew ?_ | refine blk_alloc ?_ _)); refine blk_far ?_ NB191_201.out _; (with_reducible repeat (first | refine blk_drewN ?_ _ | refine blk_drew ?_ | refine blk_alloc ?_ _)); exact BK191.out) hg (Kd.R_ne HO_3.out BK191.out (by decide))); have n3_ := Aside0.mk (blk_grown (g := gb192) (o := .cells #[.int .i64 0, .int .u32 0, .slice none 0 0, .slice none 0 0, .slice none 0 0] 43 (0, 0)) (by (with_reducible repeat (first | refine blk_drewN ?_ _ | refine blk_drew ?_ | refine blk_alloc ?_ _)); refine blk_far ?_ NB192_201.out _; (with_reducible repeat (first | refine blk_drewN ?_ _ | refine blk_drew ?_ | refine blk_alloc ?_ _)); refine blk_far ?_ NB192_201.out _; (with_reducible repeat (first | refine blk_drewN ?_ _ | refine blk_drew ?_ | refine blk_alloc ?_ _)); exact BK192.out) hg (Kd.R_ne HO_3.out BK192.out (by decide))); have n4_ := Aside0.mk (blk_grown (g := gb201) (o := .cells #[.string t202, .bool ((rd_T98 l0_3 x4_1).f1), .string t203, .int .u32 ((rd_T98 l0_3 x4_1).f3)] 98 (0, 0)) (by (with_reducible repeat (first | refine blk_drewN ?_ _ | refine blk_drew ?_ | refine blk_alloc ?_ _)); refine blk_put (cs := #[.string t202, .bool ((rd_T98 l0_3 x4_1).f1), .string ((rd_T98 l0_3 x4_1).f2), .int .u32 ((rd_T98 l0_3 x4_1).f3)]) ?_ 2 _ rfl; (with_reducible repeat (first | refine blk_drewN ?_ _ | refine blk_drew ?_ | refine blk_alloc ?_ _)); refine blk_put (cs := #[.string ((rd_T98 l0_3 x4_1).f0), .bool ((rd_T98 l0_3 x4_1).f1), .string ((rd_T98 l0_3 x4_1).f2), .int .u32 ((rd_T98 l0_3 x4_1).f3)]) ?_ 0 _ rfl; (with_reducible repeat (first | refine blk_drewN ?_ _ | refine blk_drew ?_ | refine blk_alloc ?_ _)); exact BK201.out) hg (Kd.R_away HO_3.out (fun _ hk => hk))); have n5_ := Aside0.mk (hb); have n6_ := Aside0.mk (ho); clear HO_192002; clear HO_192004; clear BK191; clear BK192; clear BK201; clear HB; clear HO_3; have HO_192002 := n0_; have HO_192004 := n1_; have BK191 := n2_; have BK192 := n3_; have BK201 := n4_; have HB := n5_; have HO206 := n6_; clear n0_ n1_ n2_ n3_ n4_ n5_ n6_; clear ho hb hg hat))
                  go_roundg kj14
                  case measure => have := HK1.out; have := HJ14.out; omega
                  case rel => exact ⟨(y204), (wrap64 (x4_1 + 1)), (by first | rfl | (simp; done) | (simp [*]; done)), H', ⟨by have := HK1.out; have := HJ14.out; omega⟩, ⟨by (with_reducible repeat (first | apply Kd.R_alloc | apply Kd.R_drewN | apply Kd.R_drew)); exact Kd.R_mono HO206.out (fun _ hk => trivial)⟩, ⟨by (with_reducible repeat (first | apply Kd.R_alloc | apply Kd.R_drewN | apply Kd.R_drew)); exact HO_192002.out⟩, ⟨by (with_reducible repeat (first | apply Kd.R_alloc | apply Kd.R_drewN | apply Kd.R_drew)); exact HO_192004.out⟩, ⟨by (with_reducible repeat (first | refine blk_drewN ?_ _ | refine blk_drew ?_ | refine blk_alloc ?_ _)); exact BK191.out⟩, ⟨by (with_reducible repeat (first | refine blk_drewN ?_ _ | refine blk_drew ?_ | refine blk_alloc ?_ _)); exact BK192.out⟩, ⟨by repeat (first | (with_reducible first | exact HB.out | apply below_alloc | apply pw_below_drewN | apply below_drew1 | refine below_set ?_ GE191.out | refine below_set ?_ GE192.out | refine below_set ?_ GE201.out) | exact HB.out)⟩⟩
                · rw [if_neg c26] at H
                  exact absurd H (by simp)
              · rw [if_neg c23] at H
                exact absurd H (by simp)
            · rw [if_neg c22] at H
              exact absurd H (by simp)
          · replace c21 := Bool.eq_false_iff.mpr c21
            subst c21
            have H1 : (some (t193, a0_1, t194, x3_1, t197)) = some (r1, r2, r3, r4, r5) := by rw [if_neg (show ¬ (false = true) by decide)] at H; exact H
            clear H
            have H := H1
            clear H1
            simp only [Option.some.injEq, Prod.mk.injEq] at H
            obtain ⟨rfl, rfl, rfl, rfl, rfl⟩ := H
            obtain ⟨Ao41, co41, eo41⟩ := Kd.R_slice HO_3.out
            subst eo41
            have hnb42 := NB191_192.out
            have hnc42 := NB192_191.out
            have hcz43_0 : wc.cell? ⟨gb191, 0, none⟩ = some (.int .i64 t193) := (blk_cell BK191.out 0).trans rfl
            have hcz43_1 : wc.cell? ⟨gb191, 1, none⟩ = some (.int .u32 a0_1) := (blk_cell BK191.out 1).trans rfl
            have hcz43_2 : wc.cell? ⟨gb191, 2, none⟩ = some (.slice Ao10 t194.length co10) := (blk_cell BK191.out 2).trans rfl
            have hcz43_3 : wc.cell? ⟨gb191, 3, none⟩ = some (.slice A0_3 l0_3.length c0_3) := (blk_cell BK191.out 3).trans rfl
            have hcz43_4 : wc.cell? ⟨gb191, 4, none⟩ = some (.slice Ao13 t197.length co13) := (blk_cell BK191.out 4).trans rfl
            have hfz43_0 := blk_frozen BK191.out 0
            have hfz43_1 := blk_frozen BK191.out 1
            have hfz43_2 := blk_frozen BK191.out 2
            have hfz43_3 := blk_frozen BK191.out 3
            have hfz43_4 := blk_frozen BK191.out 4
            have hcz44_0 : wc.cell? ⟨gb192, 0, none⟩ = some (.int .i64 0) := (blk_cell BK192.out 0).trans rfl
            have hcz44_1 : wc.cell? ⟨gb192, 1, none⟩ = some (.int .u32 0) := (blk_cell BK192.out 1).trans rfl
            have hcz44_2 : wc.cell? ⟨gb192, 2, none⟩ = some (.slice none 0 0) := (blk_cell BK192.out 2).trans rfl
            have hcz44_3 : wc.cell? ⟨gb192, 3, none⟩ = some (.slice none 0 0) := (blk_cell BK192.out 3).trans rfl
            have hcz44_4 : wc.cell? ⟨gb192, 4, none⟩ = some (.slice none 0 0) := (blk_cell BK192.out 4).trans rfl
            have hfz44_0 := blk_frozen BK192.out 0
            have hfz44_1 := blk_frozen BK192.out 1
            have hfz44_2 := blk_frozen BK192.out 2
            have hfz44_3 := blk_frozen BK192.out 3
            have hfz44_4 := blk_frozen BK192.out 4
            go_wp2
            refine bodyPost_ret (results_cell_row rfl _ _ gb192 43 #[.int .i64 t193, .int .u32 a0_1, .slice Ao10 t194.length co10, .slice Ao41 x3_1.length co41, .slice Ao13 t197.length co13] (0, 0) _ rfl (by (with_reducible repeat (first | refine blk_drewN ?_ _ | refine blk_drew ?_ | refine blk_alloc ?_ _)); refine blk_put (cs := #[.int .i64 t193, .int .u32 a0_1, .slice Ao10 t194.length co10, .slice Ao41 x3_1.length co41, .slice none 0 0]) ?_ 4 _ rfl; (with_reducible repeat (first | refine blk_drewN ?_ _ | refine blk_drew ?_ | refine blk_alloc ?_ _)); refine blk_put (cs := #[.int .i64 t193, .int .u32 a0_1, .slice Ao10 t194.length co10, .slice none 0 0, .slice none 0 0]) ?_ 3 _ rfl; (with_reducible repeat (first | refine blk_drewN ?_ _ | refine blk_drew ?_ | refine blk_alloc ?_ _)); refine blk_put (cs := #[.int .i64 t193, .int .u32 a0_1, .slice none 0 0, .slice none 0 0, .slice none 0 0]) ?_ 2 _ rfl; (with_reducible repeat (first | refine blk_drewN ?_ _ | refine blk_drew ?_ | refine blk_alloc ?_ _)); refine blk_put (cs := #[.int .i64 t193, .int .u32 0, .slice none 0 0, .slice none 0 0, .slice none 0 0]) ?_ 1 _ rfl; (with_reducible repeat (first | refine blk_drewN ?_ _ | refine blk_drew ?_ | refine blk_alloc ?_ _)); refine blk_put (cs := #[.int .i64 0, .int .u32 0, .slice none 0 0, .slice none 0 0, .slice none 0 0]) ?_ 0 _ rfl; (with_reducible repeat (first | refine blk_drewN ?_ _ | refine blk_drew ?_ | refine blk_alloc ?_ _)); refine blk_far ?_ NB192_191.out _; (with_reducible repeat (first | refine blk_drewN ?_ _ | refine blk_drew ?_ | refine blk_alloc ?_ _)); exact BK192.out) Tryd.underlying43 rfl (by kernel_rfl)) rfl ?_
            exact ⟨_, _, _, by first | rfl | (simp [errW_none, errW_some] <;> rfl) | (simp [*, errW_none, errW_some] <;> rfl), by (with_reducible repeat (first | apply Kd.R_alloc | apply Kd.R_drewN | apply Kd.R_drew)); exact Kd.R_mono (Kd.R_far (p := ⟨gb192, 4, none⟩) (Kd.R_far (p := ⟨gb192, 3, none⟩) (Kd.R_far (p := ⟨gb192, 2, none⟩) (Kd.R_far (p := ⟨gb192, 1, none⟩) (Kd.R_far (p := ⟨gb192, 0, none⟩) (Kd.R_far (p := ⟨gb191, 3, none⟩) (Kd.R_types (Kd.R_types HO_192002.out BK191.out (by decide)) BK192.out (by decide)) (fun _ hk => hk.1.2) (.slice Ao41 x3_1.length co41)) (fun _ hk => hk.2) (.int .i64 t193)) (fun _ hk => hk.2) (.int .u32 a0_1)) (fun _ hk => hk.2) (.slice Ao10 t194.length co10)) (fun _ hk => hk.2) (.slice Ao41 x3_1.length co41)) (fun _ hk => hk.2) (.slice Ao13 t197.length co13)) (fun _ hk => trivial), by (with_reducible repeat (first | apply Kd.R_alloc | apply Kd.R_drewN | apply Kd.R_drew)); exact Kd.R_mono (Kd.R_far (p := ⟨gb192, 4, none⟩) (Kd.R_far (p := ⟨gb192, 3, none⟩) (Kd.R_far (p := ⟨gb192, 2, none⟩) (Kd.R_far (p := ⟨gb192, 1, none⟩) (Kd.R_far (p := ⟨gb192, 0, none⟩) (Kd.R_far (p := ⟨gb191, 3, none⟩) (Kd.R_types (Kd.R_types HO_3.out BK191.out (by decide)) BK192.out (by decide)) (fun _ hk => hk.1.2) (.slice Ao41 x3_1.length co41)) (fun _ hk => hk.2) (.int .i64 t193)) (fun _ hk => hk.2) (.int .u32 a0_1)) (fun _ hk => hk.2) (.slice Ao10 t194.length co10)) (fun _ hk => hk.2) (.slice Ao41 x3_1.length co41)) (fun _ hk => hk.2) (.slice Ao13 t197.length co13)) (fun _ hk => trivial), by (with_reducible repeat (first | apply Kd.R_alloc | apply Kd.R_drewN | apply Kd.R_drew)); exact Kd.R_mono (Kd.R_far (p := ⟨gb192, 4, none⟩) (Kd.R_far (p := ⟨gb192, 3, none⟩) (Kd.R_far (p := ⟨gb192, 2, none⟩) (Kd.R_far (p := ⟨gb192, 1, none⟩) (Kd.R_far (p := ⟨gb192, 0, none⟩) (Kd.R_far (p := ⟨gb191, 3, none⟩) (Kd.R_types (Kd.R_types HO_192004.out BK191.out (by decide)) BK192.out (by decide)) (fun _ hk => hk.1.2) (.slice Ao41 x3_1.length co41)) (fun _ hk => hk.2) (.int .i64 t193)) (fun _ hk => hk.2) (.int .u32 a0_1)) (fun _ hk => hk.2) (.slice Ao10 t194.length co10)) (fun _ hk => hk.2) (.slice Ao41 x3_1.length co41)) (fun _ hk => hk.2) (.slice Ao13 t197.length co13)) (fun _ hk => trivial), by repeat (first | (with_reducible first | exact HB.out | apply below_alloc | apply pw_below_drewN | apply below_drew1 | refine below_set ?_ GE191.out | refine below_set ?_ GE192.out) | exact HB.out)⟩
def cachepotref1_Fill.l0 : Nat → Int → List Int → Int → Option (ByteArray)
  | 0, _, _, _ => none
  | k + 1, x0, x5, x6 => if x6 < (x5.length : Int) then (if 0 ≤ x6 then (cachepotref1_Fill.l0 k x0 (x5.set (x6 : Int).toNat x0) (wrap64 (x6 + 1))) else (none)) else (some (strOfNums x5))
def cachepotref1_Fill.f (k : Nat) (a0 : Int) (a1 : Int) : Option (ByteArray) := if 0 ≤ (mx a1 0) then (if (mx a1 0 : Int).toNat ≤ 281474976710656 then (cachepotref1_Fill.l0 k a0 (List.replicate (mx a1 0 : Int).toNat 0) 0) else (none)) else (none)
set_option maxHeartbeats 8000000 in
set_option maxRecDepth 100000 in
theorem cachepotref1_Fill.calls (k : Nat) (a0 : Int) (a1 : Int) (r : ByteArray) (w : World) (h : cachepotref1_Fill.f k a0 a1 = some r) :
    Calls Tryd.prog 119 #[.int .u8 a0, .int .i64 a1] w fun e w' => e = .returned (.string r) ∧ Below w.heap.size w w' := by
  have HB := Aside0.mk (Below.refl w.heap.size w)
  have H : (if 0 ≤ (mx a1 0) then (if (mx a1 0 : Int).toNat ≤ 281474976710656 then (cachepotref1_Fill.l0 k a0 (List.replicate (mx a1 0 : Int).toNat 0) 0) else (none)) else (none)) = some r := h
  clear h
  obtain ⟨ji3, hji3⟩ : ∃ j_ : Int, (mx a1 0) = j_ := ⟨_, rfl⟩
  replace H : (if 0 ≤ (ji3) then (if (ji3 : Int).toNat ≤ 281474976710656 then (cachepotref1_Fill.l0 k a0 (List.replicate (ji3 : Int).toNat 0) 0) else (none)) else (none)) = some r := by first | (rw [hji3] at H; exact H) | (simp only [hji3] at H ⊢; exact H)
  (try (have hji3l : 0 ≤ ji3 := by (rw [← hji3]; unfold mx; (repeat' split) <;> omega)))
  (try (have hji3m : 0 ≤ ji3 := by omega))
  have hji3_ : (if a1 < 0 then 0 else a1) = ji3 := hji3
  by_cases c4 : 0 ≤ (ji3)
  · rw [if_pos c4] at H
    have c4b0 := eq_true c4
    have c4b1 : decide (0 ≤ (ji3)) = true := decide_eq_true c4
    clear c4
    by_cases c5 : (ji3 : Int).toNat ≤ 281474976710656
    · rw [if_pos c5] at H
      have c5b0 := eq_true c5
      have c5b1 : decide ((ji3 : Int).toNat ≤ 281474976710656) = true := decide_eq_true c5
      clear c5
      obtain ⟨y207, hy207⟩ : ∃ y_ : List Int, y_ = (List.replicate (ji3 : Int).toNat 0) := ⟨_, rfl⟩
      replace H : (cachepotref1_Fill.l0 k a0 y207 0) = some r := by first | (rw [hy207]; with_reducible exact H) | (have H2_ := (Option.bind_some _ _).symm.trans H; rw [hy207]; with_reducible exact H2_) | (have H2_ := (Option.bind_some _ _).symm.trans H; with_reducible exact H2_) | with_reducible exact H | (rw [hy207]; exact H) | exact H
      have Ny207 := Aside0.mk hy207
      clear hy207
      have H' := Aside0.mk H
      clear H
      go_enter Tryd.func119, Tryd.ntmps119
      go_wp2_with (first | ((with_reducible refine gate_dst (N := 9) rfl ?_); refine Kd.R_make (Kd.int .u8) _ 5 rfl (N := 9) rfl 32 _ _ rfl ji3 rfl rfl Tryd.underlying32 (.int .u8 0) 1 info5 rfl (by decide) (by omega) 0 (ok := fun _ => True) (okp := fun _ => True) rfl (fun _ hk => hk) trivial (of_decide_eq_true (by first | (with_reducible assumption) | assumption)) (Nat.le_trans (Nat.mul_le_mul_right _ (of_decide_eq_true (by first | (with_reducible assumption) | assumption) : ji3.toNat ≤ 281474976710656)) (by omega)) (Below.refl _ _) (Nat.le_refl _) ?_; intro v208 w6 ho7 hb hg_ hnew_; clear hg_ hnew_; (first | rw [← Ny207.out] at ho7 | (simp only [Int.reduceToNat] at ho7; rw [← Ny207.out] at ho7)); have n0_ := Aside0.mk (Kd.R_lower ho7 (below_size (by repeat (first | (with_reducible first | exact HB.out | apply below_alloc | apply pw_below_drewN | apply below_drew1) | exact HB.out)))); have n1_ := Aside0.mk (below_step (by repeat (first | (with_reducible first | exact HB.out | apply below_alloc | apply pw_below_drewN | apply below_drew1) | exact HB.out)) hb); clear HB; have HO209 := n0_; have HB := n1_; clear n0_ n1_; clear hb ho7))
      go_loopg [6] k (fun kq v6 w' => ∃ (x5_1 : List Int) (x6_1 : Int), v6 = .int .i64 x6_1 ∧ Aside0 (cachepotref1_Fill.l0 kq a0 x5_1 x6_1 = some r) ∧ Aside0 (kq ≤ k) ∧ Aside0 (Kd.R (Kd.int .u8) 5 w' w.heap.size (fun _ => True) v208 x5_1) ∧ Aside0 (Below w.heap.size w w'))
      case atStart => exact ⟨(y207), (0), (by first | rfl | (simp; done) | (simp [*]; done)), H', ⟨Nat.le_refl _⟩, ⟨by (with_reducible repeat (first | apply Kd.R_alloc | apply Kd.R_drewN | apply Kd.R_drew)); exact HO209.out⟩, ⟨by repeat (first | (with_reducible first | exact HB.out | apply below_alloc | apply pw_below_drewN | apply below_drew1) | exact HB.out)⟩⟩
      case round =>
        clear H'
        try clear c1
        try clear p2
        try clear c4
        try clear c4b0
        try clear c4b1
        try clear c5
        try clear c5b0
        try clear c5b1
        obtain ⟨x5_1, x6_1, rfl, HA, HK1, HO_5, HB⟩ := hrel
        cases gk with
        | zero => exact absurd HA.out (by simp [cachepotref1_Fill.l0])
        | succ k1 =>
          have H := HA.out
          clear HA
          simp only [cachepotref1_Fill.l0] at H
          by_cases c8 : x6_1 < (x5_1.length : Int)
          · rw [if_pos c8] at H
            have c8b0 : decide (x6_1 < (x5_1.length : Int)) = true := decide_eq_true c8
            clear c8
            by_cases c9 : 0 ≤ x6_1
            · rw [if_pos c9] at H
              have c9b0 : decide (0 ≤ x6_1) = true := decide_eq_true c9
              clear c9
              obtain ⟨y210, hy210⟩ : ∃ y_ : List Int, y_ = (x5_1.set (x6_1 : Int).toNat a0) := ⟨_, rfl⟩
              replace H : (cachepotref1_Fill.l0 k1 a0 y210 (wrap64 (x6_1 + 1))) = some r := by first | (rw [hy210]; with_reducible exact H) | (have H2_ := (Option.bind_some _ _).symm.trans H; rw [hy210]; with_reducible exact H2_) | (have H2_ := (Option.bind_some _ _).symm.trans H; with_reducible exact H2_) | with_reducible exact H | (rw [hy210]; exact H) | exact H
              have Ny210 := Aside0.mk hy210
              clear hy210
              have H' := Aside0.mk H
              clear H
              obtain ⟨Ao11, co11, eo11⟩ := Kd.R_slice HO_5.out
              subst eo11
              have p10 : 0 ≤ (x6_1 : Int) := of_decide_eq_true (by first | (with_reducible assumption) | assumption)
              have q10 : (x6_1 : Int) < ((x5_1.length : Int) : Int) := of_decide_eq_true (by first | (with_reducible assumption) | assumption)
              obtain ⟨go10, co10, eo10, gb10, gl10, cl10, HG10⟩ := Kd.R_form HO_5.out (by omega)
              (first | cases eo10 | (injection eo10 with ea_ en_ ec_; (first | subst ea_ | (injection ea_ with ea_; subst ea_)); subst ec_; clear en_))
              have GB10 := Aside0.mk gb10
              have GG10 := Aside0.mk HG10
              clear gb10 gl10 HG10
              obtain ⟨hx10_0, hf10_0⟩ := Kd.R_celln 0 HO_5.out (x6_1 : Int) p10 q10
              replace p10 := eq_true p10
              replace q10 := eq_true q10
              have HP12 := Kd.R_putg HO_5.out (x6_1 : Int) a0
              go_wp2_with (first | ((with_reducible refine gate_store (t := 5) (p := 19) rfl ?_); refine store_event (t := 5) (p := 19) (v := ?vo_w13) (w1 := (wr.setCell ⟨go10, (x6_1 : Int).toNat, none⟩ (.int .u8 a0))) ?hg ?ho ?hn ?hr ?_; (case ho => rfl); (case hg => rfl); (case hn => rfl); (case hr => first | (go_simp; done) | (go_simp; rfl)); intro w13 hw; have hg : wr.grownBy w13 (some go10) := (by rw [hw]; exact HP12.2); have hp_ : Kd.R (Kd.int .u8) 5 w13 w.heap.size (fun _ => True) (.slice (some ⟨go10, 0, none⟩) x5_1.length co11) y210 := (by rw [hw, Ny210.out]; exact HP12.1); clear HP12; have n0_ := Aside0.mk (hp_); have n1_ := Aside0.mk ((by rw [hw]; exact below_set (HB.out) GB10.out : Below w.heap.size w w13)); clear HO_5; clear HB; have HO_5 := n0_; have HB := n1_; clear n0_ n1_; clear hg hw hp_))
              go_roundg k1
              case measure => have := HK1.out; omega
              case rel => exact ⟨(y210), (wrap64 (x6_1 + 1)), (by first | rfl | (simp; done) | (simp [*]; done)), H', ⟨by have := HK1.out; omega⟩, ⟨by (with_reducible repeat (first | apply Kd.R_alloc | apply Kd.R_drewN | apply Kd.R_drew)); exact HO_5.out⟩, ⟨by repeat (first | (with_reducible first | exact HB.out | apply below_alloc | apply pw_below_drewN | apply below_drew1) | exact HB.out)⟩⟩
            · rw [if_neg c9] at H
              exact absurd H (by simp)
          · rw [if_neg c8] at H
            have c8b0 : decide (x6_1 < (x5_1.length : Int)) = false := decide_eq_false c8
            clear c8
            obtain rfl := Option.some.inj H
            obtain ⟨Ao14, co14, eo14⟩ := Kd.R_slice HO_5.out
            subst eo14
            have hcv15 := own_string (P := Tryd.prog) Tryd.underlying32 Tryd.underlying5 Tryd.underlying9 (Kd.own_of_R HO_5.out)
            go_wp2
            go_ret
            exact ⟨by first | rfl | (simp [errW_none, errW_some] <;> rfl) | (simp only [← hji3]; first | rfl | (simp [errW_none, errW_some] <;> rfl)) | (simp [*, errW_none, errW_some] <;> rfl), by repeat (first | (with_reducible first | exact HB.out | apply below_alloc | apply pw_below_drewN | apply below_drew1) | exact HB.out)⟩
    · rw [if_neg c5] at H
      exact absurd H (by simp)
  · rw [if_neg c4] at H
    exact absurd H (by simp)
def cachepothand_Val.f (k : Nat) (a0 : ByteArray) (a1 : Int) : Option (ByteArray) := (cachepotbook_Pick.f a1 9).bind fun t211 => (if t211 = 8 then ((cachepotref1_Fill.f k 120 40).bind fun t212 => (if a0.size + t212.size ≤ 9223372036854775807 then ((cachepotbook_Short.f (a0 ++ t212) 48).bind fun t213 => (some t213)) else (none))) else ((cachepotbook_Short.f a0 48).bind fun t214 => (some t214)))
set_option maxHeartbeats 8000000 in
set_option maxRecDepth 100000 in
theorem cachepothand_Val.calls (k : Nat) (a0 : ByteArray) (a1 : Int) (r : ByteArray) (w : World) (h : cachepothand_Val.f k a0 a1 = some r) :
    Calls Tryd.prog 100 #[.string a0, .int .i64 a1] w fun e w' => e = .returned (.string r) ∧ Below w.heap.size w w' := by
  have HB := Aside0.mk (Below.refl w.heap.size w)
  have H : ((cachepotbook_Pick.f a1 9).bind fun t211 => (if t211 = 8 then ((cachepotref1_Fill.f k 120 40).bind fun t212 => (if a0.size + t212.size ≤ 9223372036854775807 then ((cachepotbook_Short.f (a0 ++ t212) 48).bind fun t213 => (some t213)) else (none))) else ((cachepotbook_Short.f a0 48).bind fun t214 => (some t214)))) = some r := h
  clear h
  replace H := Option.bind_eq_some_iff.mp H
  obtain ⟨t211, A30, H⟩ := H
  replace H : (if t211 = 8 then ((cachepotref1_Fill.f k 120 40).bind fun t212 => (if a0.size + t212.size ≤ 9223372036854775807 then ((cachepotbook_Short.f (a0 ++ t212) 48).bind fun t213 => (some t213)) else (none))) else ((cachepotbook_Short.f a0 48).bind fun t214 => (some t214))) = some r := H
  have A3 := Aside0.mk A30
  clear A30
  by_cases c4 : t211 = 8
  · rw [if_pos c4] at H
    have c4b0 : (t211 == 8) = true := beq_iff_eq.mpr c4
    have c4b1 : (t211 != 8) = false := bne_eq_false_iff_eq.mpr c4
    clear c4
    replace H := Option.bind_eq_some_iff.mp H
    obtain ⟨t212, A50, H⟩ := H
    replace H : (if a0.size + t212.size ≤ 9223372036854775807 then ((cachepotbook_Short.f (a0 ++ t212) 48).bind fun t213 => (some t213)) else (none)) = some r := H
    have A5 := Aside0.mk A50
    clear A50
    by_cases c6 : a0.size + t212.size ≤ 9223372036854775807
    · rw [if_pos c6] at H
      have c6b0 := eq_true c6
      have c6b1 : decide (a0.size + t212.size ≤ 9223372036854775807) = true := decide_eq_true c6
      try have c6b2 : (9223372036854775807 < a0.size + t212.size) = False := eq_false (Nat.not_lt.2 c6)
      replace H := Option.bind_eq_some_iff.mp H
      obtain ⟨t213, A70, H⟩ := H
      replace H : (some t213) = some r := H
      have A7 := Aside0.mk A70
      clear A70
      obtain rfl := Option.some.inj H
      go_enter Tryd.func100, Tryd.ntmps100
      go_wp2_with (first | ((with_reducible refine gate_callee (f := 25) rfl ?_); refine goesL_ (some 6) rfl rfl Tryd.func25 (by kernel_rfl) rfl #[.int .i64 a1, .int .i64 9] rfl (by (try simp only [List.map_toArray, List.map_cons, List.map_nil]); first | done | rfl | (simp only [List.length_drop, List.length_take]; rfl)) ?_; (with_reducible refine (cachepotbook_Pick.calls a1 9 t211 _ A3.out).mono ?_); rintro e w' ⟨rfl, ⟨nd, rfl⟩⟩; refine ⟨_, rfl, ?_⟩) | ((with_reducible refine gate_callee (f := 119) rfl ?_); refine goesL_ (some 9) rfl rfl Tryd.func119 (by kernel_rfl) rfl #[.int .u8 120, .int .i64 40] rfl (by (try simp only [List.map_toArray, List.map_cons, List.map_nil]); first | done | rfl | (simp only [List.length_drop, List.length_take]; rfl)) ?_; (with_reducible refine (cachepotref1_Fill.calls k 120 40 t212 _ A5.out).mono ?_); rintro e w8 ⟨rfl, hb⟩; refine ⟨_, rfl, ?_⟩; have n0_ := Aside0.mk (below_step (by repeat (first | (with_reducible first | exact HB.out | apply below_alloc | apply pw_below_drewN | apply below_drew1) | exact HB.out)) hb); clear HB; have HB := n0_; clear n0_; (try clear hb); (try clear hb2); (try clear hk); (try clear hi)) | ((with_reducible refine gate_callee (f := 27) rfl ?_); refine goesL_ (some 12) rfl rfl Tryd.func27 (by kernel_rfl) rfl #[.string (a0 ++ t212), .int .i64 48] rfl (by (try simp only [List.map_toArray, List.map_cons, List.map_nil]); first | done | rfl | (simp only [List.length_drop, List.length_take]; rfl)) ?_; (with_reducible refine (cachepotbook_Short.calls (a0 ++ t212) 48 t213 _ A7.out).mono ?_); rintro e w9 ⟨rfl, hb⟩; refine ⟨_, rfl, ?_⟩; have n0_ := Aside0.mk (below_step (by repeat (first | (with_reducible first | exact HB.out | apply below_alloc | apply pw_below_drewN | apply below_drew1) | exact HB.out)) hb); clear HB; have HB := n0_; clear n0_; (try clear hb); (try clear hb2); (try clear hk); (try clear hi)))
      go_ret
      exact ⟨by first | rfl | (simp [errW_none, errW_some] <;> rfl) | (simp [*, errW_none, errW_some] <;> rfl), by repeat (first | (with_reducible first | exact HB.out | apply below_alloc | apply pw_below_drewN | apply below_drew1) | exact HB.out)⟩
    · rw [if_neg c6] at H
      exact absurd H (by simp)
  · rw [if_neg c4] at H
    have c4b0 : (t211 == 8) = false := beq_eq_false_iff_ne.mpr c4
    have c4b1 : (t211 != 8) = true := bne_iff_ne.mpr c4
    replace H := Option.bind_eq_some_iff.mp H
    obtain ⟨t214, A100, H⟩ := H
    replace H : (some t214) = some r := H
    have A10 := Aside0.mk A100
    clear A100
    obtain rfl := Option.some.inj H
    go_enter Tryd.func100, Tryd.ntmps100
    go_wp2_with (first | ((with_reducible refine gate_callee (f := 25) rfl ?_); refine goesL_ (some 6) rfl rfl Tryd.func25 (by kernel_rfl) rfl #[.int .i64 a1, .int .i64 9] rfl (by (try simp only [List.map_toArray, List.map_cons, List.map_nil]); first | done | rfl | (simp only [List.length_drop, List.length_take]; rfl)) ?_; (with_reducible refine (cachepotbook_Pick.calls a1 9 t211 _ A3.out).mono ?_); rintro e w' ⟨rfl, ⟨nd, rfl⟩⟩; refine ⟨_, rfl, ?_⟩) | ((with_reducible refine gate_callee (f := 27) rfl ?_); refine goesL_ (some 12) rfl rfl Tryd.func27 (by kernel_rfl) rfl #[.string a0, .int .i64 48] rfl (by (try simp only [List.map_toArray, List.map_cons, List.map_nil]); first | done | rfl | (simp only [List.length_drop, List.length_take]; rfl)) ?_; (with_reducible refine (cachepotbook_Short.calls a0 48 t214 _ A10.out).mono ?_); rintro e w11 ⟨rfl, hb⟩; refine ⟨_, rfl, ?_⟩; have n0_ := Aside0.mk (below_step (by repeat (first | (with_reducible first | exact HB.out | apply below_alloc | apply pw_below_drewN | apply below_drew1) | exact HB.out)) hb); clear HB; have HB := n0_; clear n0_; (try clear hb); (try clear hb2); (try clear hk); (try clear hi)))
    go_ret
    exact ⟨by first | rfl | (simp [errW_none, errW_some] <;> rfl) | (simp [*, errW_none, errW_some] <;> rfl), by repeat (first | (with_reducible first | exact HB.out | apply below_alloc | apply pw_below_drewN | apply below_drew1) | exact HB.out)⟩
end Go.Proofs.YtfaelejeihmgcaaDoor.Lgx
end

section
namespace Go.Proofs
open Go.Shelf
def Tryd.lays169_ren : Go.Shelf.Ren := ⟨fun | 169 => 59 | n => n, fun | 70 => 80 | 9 => 9 | 0 => 0 | 72 => 82 | 37 => 32 | 127 => 132 | 3 => 3 | 5 => 5 | n => n, fun | n => n⟩
theorem Tryd.lays169 : Go.Proofs.Lays.n169 Tryd.prog Tryd.lays169_ren := {
  mixed := by kernel_rfl
  f169 := Tryd.func59.trans (congrArg some (by kernel_rfl))
  t0 := Tryd.underlying0
  a0 := Tryd.isAgg0
  z0 := Tryd.sizeOf0
  v0 := Tryd.zeroValue0
  t3 := Tryd.underlying3
  a3 := Tryd.isAgg3
  z3 := Tryd.sizeOf3
  v3 := Tryd.zeroValue3
  t9 := Tryd.underlying9
  a9 := Tryd.isAgg9
  z9 := Tryd.sizeOf9
  v9 := Tryd.zeroValue9
  t37 := Tryd.underlying32
  a37 := Tryd.isAgg32
  z37 := Tryd.sizeOf32
  v37 := Tryd.zeroValue32
  t70 := Tryd.underlying80
  a70 := Tryd.isAgg80
  z70 := Tryd.sizeOf80
  v70 := Tryd.zeroValue80
  t72 := Tryd.underlying82
  a72 := Tryd.isAgg82
  z72 := Tryd.sizeOf82
  v72 := Tryd.zeroValue82
  t127 := Tryd.underlying132
  a127 := Tryd.isAgg132
  z127 := Tryd.sizeOf132
  v127 := Tryd.zeroValue132 }
theorem Tryd.Builder_Extra_169 : Builder.Extra Tryd.prog Tryd.lays169_ren := {
  sizeBuilder := by kernel_rfl
  liesBuilder := by kernel_rfl
  t5 := Tryd.underlying5
  a5 := Tryd.isAgg5
  z5 := Tryd.sizeOf5
  v5 := Tryd.zeroValue5
  infoByte := by kernel_rfl
  cellsByte := by kernel_rfl
  sizeByte := by kernel_rfl
  neB5 := by decide }
open Go.RowKit in
theorem Tryd.Builder_String_any (B b : Nat) (l : List UInt8) (w : World) (h : Lib.IsBuilder 82 5 B b (Lib.byteCells l) w) (hBw : B ≤ w.heap.size) :
    Calls Tryd.prog 59 #[.pointer (some ⟨b, 0, none⟩)] w fun e w' => e = .returned (.string ⟨l.toArray⟩) ∧ Below B w w' := Any.Builder_String_any Tryd.lays169 Tryd.Builder_Extra_169 B b l w h hBw
def Tryd.lays156_ren : Go.Shelf.Ren := ⟨fun | 156 => 62 | 165 => 96 | 166 => 58 | 169 => 59 | 240 => 94 | 241 => 117 | 276 => 116 | 277 => 125 | n => n, fun | 31 => 22 | 9 => 9 | 3 => 3 | 4 => 4 | 0 => 0 | 20 => 20 | 72 => 82 | 76 => 88 | 70 => 80 | 37 => 32 | 75 => 84 | 127 => 132 | 164 => 157 | 5 => 5 | 80 => 91 | n => n, fun | n => n⟩
theorem Tryd.lays156 : Go.Proofs.Lays.n156 Tryd.prog Tryd.lays156_ren := {
  mixed := by kernel_rfl
  f156 := Tryd.func62.trans (congrArg some (by kernel_rfl))
  f165 := Tryd.func96.trans (congrArg some (by kernel_rfl))
  f166 := Tryd.func58.trans (congrArg some (by kernel_rfl))
  f169 := Tryd.func59.trans (congrArg some (by kernel_rfl))
  f240 := Tryd.func94.trans (congrArg some (by kernel_rfl))
  f241 := Tryd.func117.trans (congrArg some (by kernel_rfl))
  f276 := Tryd.func116.trans (congrArg some (by kernel_rfl))
  f277 := Tryd.func125.trans (congrArg some (by kernel_rfl))
  t0 := Tryd.underlying0
  a0 := Tryd.isAgg0
  z0 := Tryd.sizeOf0
  v0 := Tryd.zeroValue0
  t3 := Tryd.underlying3
  a3 := Tryd.isAgg3
  z3 := Tryd.sizeOf3
  v3 := Tryd.zeroValue3
  t4 := Tryd.underlying4
  a4 := Tryd.isAgg4
  z4 := Tryd.sizeOf4
  v4 := Tryd.zeroValue4
  t9 := Tryd.underlying9
  a9 := Tryd.isAgg9
  z9 := Tryd.sizeOf9
  v9 := Tryd.zeroValue9
  t20 := Tryd.underlying20
  a20 := Tryd.isAgg20
  z20 := Tryd.sizeOf20
  v20 := Tryd.zeroValue20
  t31 := Tryd.underlying22
  a31 := Tryd.isAgg22
  z31 := Tryd.sizeOf22
  v31 := Tryd.zeroValue22
  t37 := Tryd.underlying32
  a37 := Tryd.isAgg32
  z37 := Tryd.sizeOf32
  v37 := Tryd.zeroValue32
  t70 := Tryd.underlying80
  a70 := Tryd.isAgg80
  z70 := Tryd.sizeOf80
  v70 := Tryd.zeroValue80
  t72 := Tryd.underlying82
  a72 := Tryd.isAgg82
  z72 := Tryd.sizeOf82
  v72 := Tryd.zeroValue82
  t75 := Tryd.underlying84
  a75 := Tryd.isAgg84
  z75 := Tryd.sizeOf84
  v75 := Tryd.zeroValue84
  t76 := Tryd.underlying88
  a76 := Tryd.isAgg88
  z76 := Tryd.sizeOf88
  v76 := Tryd.zeroValue88
  t127 := Tryd.underlying132
  a127 := Tryd.isAgg132
  z127 := Tryd.sizeOf132
  v127 := Tryd.zeroValue132
  t164 := Tryd.underlying157
  a164 := Tryd.isAgg157
  z164 := Tryd.sizeOf157
  v164 := Tryd.zeroValue157 }
theorem Tryd.Builder_Extra_156 : Builder.Extra Tryd.prog Tryd.lays156_ren := {
  sizeBuilder := by kernel_rfl
  liesBuilder := by kernel_rfl
  t5 := Tryd.underlying5
  a5 := Tryd.isAgg5
  z5 := Tryd.sizeOf5
  v5 := Tryd.zeroValue5
  infoByte := by kernel_rfl
  cellsByte := by kernel_rfl
  sizeByte := by kernel_rfl
  neB5 := by decide }
open Go.RowKit in
theorem Tryd.strings_Join_none (a : Option Addr) (c : Nat) (sep : ByteArray) (w : World) :
    Calls Tryd.prog 62 #[.slice a 0 c, .string sep] w fun e w' => e = .returned (.string ⟨#[]⟩) ∧ w' = w := Any.strings_Join_none Tryd.lays156 Tryd.Builder_Extra_156 a c sep w
open Go.RowKit in
theorem Tryd.strings_Join (bk o c : Nat) (xs : List ByteArray) (sep : ByteArray) (w : World) (hcells : ∀ (j : Nat) x, xs[j]? = some x → w.cell? ⟨bk, o + j, none⟩ = some (.string x)) (hbk : bk < w.heap.size) (hN : xs.length ≤ 140737488355328) (hcap : xs.length ≤ c) (hlen : (Lib.join (xs.map (·.data.toList)) sep.data.toList).length ≤ 140737488355328) :
    Calls Tryd.prog 62 #[.slice (some ⟨bk, o, none⟩) xs.length c, .string sep] w fun e w' => e = .returned (.string ⟨(Lib.join (xs.map (·.data.toList)) sep.data.toList).toArray⟩) ∧ Below w.heap.size w w' := Any.strings_Join Tryd.lays156 Tryd.Builder_Extra_156 bk o c xs sep w hcells hbk hN hcap hlen
end Go.Proofs
end

section
namespace Go.Proofs.YtfaelejeihmgcaaDoor.Bld
open Go.RowKit
theorem info5 : (Tryd.prog.info? 5).map (fun i => (i.zero, i.size, i.bytes)) = some (some (.int .u8 0), 1, 1) := by kernel_rfl
theorem size82 : (Tryd.prog.info? 82).map (·.size) = some 2 := by kernel_rfl
theorem lies82 : liesAt Tryd.prog Tryd.prog.depth 82 (2 / Tryd.prog.cellsOf 82) 0 82 1 = true := by kernel_rfl
set_option maxHeartbeats 1000000 in
set_option maxRecDepth 100000 in
theorem copyCheck_fresh (b : Nat) (w : World) (h0 : w.cell? ⟨b, 0, none⟩ = some (.pointer none)) (hsh : w.shape? b = some (82, 2)) (hfz : w.frozen? ⟨b, 0, none⟩ = false) :
    Calls Tryd.prog 94 #[.pointer (some ⟨b, 0, none⟩)] w fun e w' => e = .returned (.tuple #[]) ∧ w' = w.setCell ⟨b, 0, none⟩ (.pointer (some ⟨b, 0, none⟩)) := by
  obtain ⟨j, hj, hjs⟩ := Option.map_eq_some_iff.1 size82
  go_enter Tryd.func94, Tryd.ntmps94
  go_wp2
  rw [Lib.run_to_unsafe w ⟨b, 0, none⟩ Tryd.underlying80 Tryd.underlying157 hj (by rw [hjs]; decide) hsh (Nat.zero_lt_succ 1)]
  simp only [Result.andThen]
  rw [Oper.upon_value]
  go_wp2
  rw [run_callFunc_extern Tryd.func116 (by kernel_rfl) (by kernel_rfl) (by kernel_rfl) (e := Extern.AbiNoEscape.same) (by kernel_rfl)]
  rw [Lib.run_noEscape]
  simp only [Result.andThen]
  rw [Oper.upon_value]
  go_wp2
  rw [Lib.run_from_unsafe w ⟨b, 0, none⟩ Tryd.underlying157 Tryd.underlying80 hj hsh lies82]
  simp only [Result.andThen]
  rw [Oper.upon_value]
  go_wp2
  go_end0
  exact ⟨rfl, rfl⟩
set_option maxHeartbeats 1000000 in
set_option maxRecDepth 100000 in
theorem copyCheck_used (b : Nat) (w : World) (h0 : w.cell? ⟨b, 0, none⟩ = some (.pointer (some ⟨b, 0, none⟩))) :
    Calls Tryd.prog 94 #[.pointer (some ⟨b, 0, none⟩)] w fun e w' => e = .returned (.tuple #[]) ∧ w' = w := by
  obtain ⟨j, hj, _⟩ := Option.map_eq_some_iff.1 size82
  go_enter Tryd.func94, Tryd.ntmps94
  go_wp2
  rw [Lib.run_neq_ptr_same w _ Tryd.underlying80 hj]
  go_wp2
  go_end0
  exact ⟨rfl, rfl⟩
/-- A builder in block b, its buffer v, which holds the bytes l; buffer and builder lie from block B on. -/
structure Is (B b : Nat) (v : Value) (l : List UInt8) (w : World) : Prop where
  hB : B ≤ b
  blk : ∃ p, (p = .pointer none ∨ p = .pointer (some ⟨b, 0, none⟩)) ∧ w.heap[b]? = some (.cells #[p, v] 82 (0, 0))
  own : w.ownsRow B 5 1 v l.length (Lib.byteCells l)
/-- Every block but the builder's and its buffer's stands. -/
def Kept (b : Nat) (v : Value) (w w' : World) : Prop := ∀ k o, w.heap[k]? = some o → k ≠ b → some k ≠ v.ownBlock → w'.heap[k]? = some o
theorem Is.lt {B b : Nat} {v : Value} {l : List UInt8} {w : World} (h : Is B b v l w) : b < w.heap.size := by
  obtain ⟨p, _, hb⟩ := h.blk
  exact (Array.getElem?_eq_some_iff.1 hb).1
theorem Is.ne {B b : Nat} {v : Value} {l : List UInt8} {w : World} (h : Is B b v l w) : v.ownBlock ≠ some b := by
  obtain ⟨p, _, hb⟩ := h.blk
  exact Lib.ownBlock_ne h.own hb (by decide)
/-- where the builder's and the buffer's blocks stand as_ they stood -/
theorem Is.move {B b : Nat} {v : Value} {l : List UInt8} {w w' : World} (h : Is B b v l w) (h0 : w'.heap[b]? = w.heap[b]?) (h1 : ∀ k, v.ownBlock = some k → w'.heap[k]? = w.heap[k]?) : Is B b v l w' := by
  refine ⟨h.hB, ?_, ?_⟩
  · obtain ⟨p, hp, hb⟩ := h.blk
    exact ⟨p, hp, h0.trans hb⟩
  · refine ⟨h.own.1, ?_⟩
    rcases h.own.2 with h2 | ⟨g, cap, cur, hv, hg, hc, r⟩
    · exact .inl h2
    · exact .inr ⟨g, cap, cur, hv, hg, (h1 g (by rw [hv]; rfl)).trans hc, r⟩
theorem Is.own_lt {B b : Nat} {v : Value} {l : List UInt8} {w : World} (h : Is B b v l w) : ∀ k, v.ownBlock = some k → k < w.heap.size := by
  intro k hk
  rcases h.own.2 with ⟨hv, _⟩ | ⟨g, cap, cur, hv, hg, hc, _⟩
  · rw [hv] at hk; simp [Value.ownBlock] at hk
  · rw [hv] at hk
    simp only [Value.ownBlock, Option.some.injEq] at hk
    subst hk
    exact (Array.getElem?_eq_some_iff.1 hc).1
theorem Is.below {B b : Nat} {v : Value} {l : List UInt8} {w w' : World} (h : Is B b v l w) (hb : Below w.heap.size w w') : Is B b v l w' :=
  h.move (hb.block b h.lt) (fun k hk => hb.block k (h.own_lt k hk))
theorem Is.drew {B b : Nat} {v : Value} {l : List UInt8} {w : World} (h : Is B b v l w) : Is B b v l w.drew := h.move rfl (fun _ _ => rfl)
theorem Is.alloc {B b : Nat} {v : Value} {l : List UInt8} {w : World} (h : Is B b v l w) (o : Obj) : Is B b v l (w.alloc o) :=
  h.move (Lib.alloc_old w o b h.lt) (fun k hk => Lib.alloc_old w o k (h.own_lt k hk))
theorem Is.builder {B b : Nat} {v : Value} {l : List UInt8} {w : World} (h : Is B b v l w) : Lib.IsBuilder 82 5 B b (Lib.byteCells l) w := by
  obtain ⟨p, hp, hb⟩ := h.blk
  have hA : Lib.BuilderAt 82 5 B b p (Lib.byteCells l) w := ⟨h.hB, v, hb, by rw [Lib.byteCells_length]; exact h.own, h.ne⟩
  rcases hp with rfl | rfl
  · exact .inl hA
  · exact .inr hA
/-- 'var b strings.Builder' -/
theorem Is.fresh (w : World) : Is w.heap.size w.heap.size (.slice none 0 0) [] (w.alloc (.cells #[.pointer none, .slice none 0 0] 82)) := by
  refine ⟨Nat.le_refl _, ⟨_, .inl rfl, ?_⟩, ⟨by simp [Lib.byteCells], .inl ⟨rfl, rfl⟩⟩⟩
  exact heap_alloc_new w _
theorem copyCheck (B b : Nat) (v : Value) (l : List UInt8) (w : World) (h : Is B b v l w) :
    Calls Tryd.prog 94 #[.pointer (some ⟨b, 0, none⟩)] w fun e w' => e = .returned (.tuple #[]) ∧ (w'.heap[b]? = some (.cells #[.pointer (some ⟨b, 0, none⟩), v] 82 (0, 0)) ∧ Is B b v l w' ∧ Below B w w' ∧ Kept b v w w') := by
  obtain ⟨p, hp, hb⟩ := h.blk
  rcases hp with rfl | rfl
  · refine (copyCheck_fresh b w (by rw [Lib.cell_of_heap hb]; rfl) (by simp [World.shape?, hb]) (Lib.frozen_of_heap hb 0)).mono ?_
    rintro e w' ⟨rfl, rfl⟩
    have e1 : (w.setCell ⟨b, 0, none⟩ (.pointer (some ⟨b, 0, none⟩))).heap[b]? = some (.cells #[.pointer (some ⟨b, 0, none⟩), v] 82 (0, 0)) := by
      simp [World.setCell, Array.getElem?_modify, hb]
    refine ⟨rfl, e1, ⟨h.hB, ⟨_, .inr rfl, e1⟩, ?_⟩, (Below.refl B w).setCell (p := ⟨b, 0, none⟩) h.hB _, fun k o hk hne _ => ?_⟩
    · exact h.own.kept (row := some b) ⟨rfl, rfl, rfl, by simp [World.setCell], fun k _ hk => Below.heap_setCell _ _ _ _ (fun e => hk (by simp [e]))⟩ (Or.inr h.ne)
    · rw [Below.heap_setCell _ _ _ _ (fun e => hne e)]
      exact hk
  · refine (copyCheck_used b w (by rw [Lib.cell_of_heap hb]; rfl)).mono ?_
    rintro e w' ⟨rfl, rfl⟩
    exact ⟨rfl, hb, h, Below.refl B _, fun _ _ hk _ _ => hk⟩
set_option maxHeartbeats 2000000 in
set_option maxRecDepth 100000 in
theorem writeByte (B b : Nat) (v : Value) (l : List UInt8) (c : UInt8) (w : World) (h : Is B b v l w) (hlen : l.length + 1 ≤ 140737488355328) (hBw : B ≤ w.heap.size) :
    Calls Tryd.prog 56 #[.pointer (some ⟨b, 0, none⟩), .int .u8 c.toNat] w fun e w' => e = .returned .nilIface ∧ ∃ v', Is B b v' (l ++ [c]) w' ∧ Below B w w' ∧ Kept b v w w' := by
  obtain ⟨i0, hi, hz0, hz1, hz2⟩ := info_parts info5
  go_enter Tryd.func56, Tryd.ntmps56
  go_wp2_with (go_at_call 94; refine (copyCheck B b v l _ h).mono ?_)
  rintro e w1 ⟨rfl, hbk, h1, hb1, hk1⟩
  have c0 : w1.cell? ⟨b, 0, none⟩ = some (.pointer (some ⟨b, 0, none⟩)) := by rw [Lib.cell_of_heap hbk]; rfl
  have c1 : w1.cell? ⟨b, 1, none⟩ = some v := by rw [Lib.cell_of_heap hbk]; rfl
  go_wp2_with (at_builtin; refine wpList_append_own _ rfl _ _ 32 rfl B 5 i0 (.int .u8 0) 1 1 Tryd.underlying32 hi hz0 hz1 hz2 rfl (by decide) _ _ _ rfl (h1.own.alloc _) ⟨w1.heap.size, 0, none⟩ 1 1 [.int .u8 c.toNat] rfl rfl ?c1 ?c2 ?c3 ?c4 ?c5 ?_)
  case c1 =>
    intro j u hj
    match j, hj with
    | 0, hj => simp at hj; subst hj; simp [Addr.add]
  case c2 => intro u hu; simp at hu; subst hu; rfl
  case c3 => unfold maxLen; omega
  case c4 => omega
  case c5 => have := hb1.size; simp; omega
  intro v' w2 hown' hgrow _
  have hlt : b < w1.heap.size := h1.lt
  have hb2 : w2.heap[b]? = some (.cells #[.pointer (some ⟨b, 0, none⟩), v] 82 (0, 0)) := by
    rw [hgrow.block b (by simp; omega) (fun e => h1.ne e.symm), Lib.alloc_old w1 _ b hlt]
    exact hbk
  have d0 : w2.cell? ⟨b, 0, none⟩ = some (.pointer (some ⟨b, 0, none⟩)) := by rw [Lib.cell_of_heap hb2]; rfl
  have d1 : w2.cell? ⟨b, 1, none⟩ = some v := by rw [Lib.cell_of_heap hb2]; rfl
  have f1 : w2.frozen? ⟨b, 1, none⟩ = false := Lib.frozen_of_heap hb2 1
  have hown2 : w2.ownsRow B 5 1 v' (l ++ [c]).length (Lib.byteCells (l ++ [c])) := by
    rw [Lib.byteCells_append]
    have e : (l ++ [c]).length = l.length + 1 := by simp
    rw [e]
    exact hown'
  have hne2 : v'.ownBlock ≠ some b := Lib.ownBlock_ne hown2 hb2 (by decide)
  obtain ⟨ao, n', cap, hv⟩ : ∃ ao n' cap, v' = .slice ao n' cap := by
    rcases hown'.2 with ⟨hv, _⟩ | ⟨g, cap, cur, hv, _⟩
    · exact ⟨_, _, _, hv⟩
    · exact ⟨_, _, _, hv⟩
  subst hv
  go_wp2
  go_ret
  have hs1 := hb1.size
  refine ⟨rfl, .slice ao n' cap, ⟨h.hB, ⟨.pointer (some ⟨b, 0, none⟩), .inr rfl, ?_⟩, ?_⟩, ?_, ?_⟩
  · simp [World.setCell, Array.getElem?_modify, hb2]
  · exact hown2.kept (row := some b) ⟨rfl, rfl, rfl, by simp [World.setCell], fun k _ hk => Below.heap_setCell _ _ _ _ (fun e => hk (by simp [e]))⟩ (Or.inr hne2)
  · exact ((hb1.alloc (by omega) _).grown hgrow (by simp; omega) (fun k hk => (h1.own.lt k hk).1)).setCell (p := ⟨b, 1, none⟩) h.hB _
  · intro k o hk hne hnv
    rw [Below.heap_setCell _ _ _ _ (fun e => hne e)]
    have h3 := hk1 k o hk hne hnv
    have hl3 := (Array.getElem?_eq_some_iff.1 h3).1
    rw [hgrow.block k (by simp; omega) hnv, Lib.alloc_old w1 _ k hl3]
    exact h3
/-- String of such a builder -/
theorem string (B b : Nat) (v : Value) (l : List UInt8) (w : World) (h : Is B b v l w) (hBw : B ≤ w.heap.size) :
    Calls Tryd.prog 59 #[.pointer (some ⟨b, 0, none⟩)] w fun e w' => e = .returned (.string ⟨l.toArray⟩) ∧ Below B w w' :=
  Tryd.Builder_String_any B b l w h.builder hBw
end Go.Proofs.YtfaelejeihmgcaaDoor.Bld
end

section
namespace Go.Proofs.YtfaelejeihmgcaaDoor
open Go.RowKit
/-- The tables of unicode/utf8, as_ a walk needs them. -/
structure Tabs (w : World) : Prop where
  u : Lib.Utf8Tabs 2 3 w
theorem Tabs.below {w w1 : World} (h : Tabs w) (hb : Below w.heap.size w w1) : Tabs w1 := by
  obtain ⟨h1, h2⟩ := h.u
  have k : ∀ a v, w.cell? a = some v → w1.cell? a = some v := fun a v h => (hb.cell (World.block_lt_of_cell? w a h)).trans h
  exact ⟨⟨fun c hc => k _ _ (h1 c hc), fun i hi => ⟨k _ _ (h2 i hi).1, k _ _ (h2 i hi).2⟩⟩⟩
end Go.Proofs.YtfaelejeihmgcaaDoor
end

section
namespace Go.Proofs.YtfaelejeihmgcaaDoor.Wd
open Go.RowKit Go.Proofs.YtfaelejeihmgcaaDoorW.PrintWords Go.Proofs.YtfaelejeihmgcaaDoorW.PrintLast Go.Proofs.YtfaelejeihmgcaaDoorW.PrintMore
attribute [local go_sem] max2_int min2_int max_two min_two max_three min_three max_four min_four   -- for this text's walks alone
set_option linter.unusedVariables false
set_option linter.unusedSimpArgs false
def errW : Option Int → Value
  | none => .nilIface
  | some c => .iface 0 (.int .i64 c)
theorem errW_none : errW none = .nilIface := rfl
theorem errW_some (c : Int) : errW (some c) = .iface 0 (.int .i64 c) := rfl
theorem info5 : (Tryd.prog.info? 5).map (fun i => (i.zero, i.size, i.bytes)) = some (some (.int .u8 0), 1, 1) := by kernel_rfl
theorem info9 : (Tryd.prog.info? 9).map (fun i => (i.zero, i.size, i.bytes)) = some (some (.string ⟨#[]⟩), 1, 16) := by kernel_rfl
end Go.Proofs.YtfaelejeihmgcaaDoor.Wd
end

section
namespace Go.Proofs.YtfaelejeihmgcaaDoor.Wd
open Go.RowKit Go.Proofs.YtfaelejeihmgcaaDoorW.PrintWords Go.Proofs.YtfaelejeihmgcaaDoorW.PrintLast
def joinB (l : List ByteArray) (sep : ByteArray) : List UInt8 := Lib.join (l.map (·.data.toList)) sep.data.toList
def strings_Join.f (l0 : List ByteArray) (a1 : ByteArray) : Option ByteArray :=
  if l0.length ≤ 1099511627776 ∧ (joinB l0 a1).length ≤ 1099511627776 then some ⟨(joinB l0 a1).toArray⟩ else none
theorem add_zero' (ad : Addr) : ad.add 0 = ad := by simp [Addr.add]
theorem strings_Join.calls (A0 : Option Addr) (c0 : Nat) (l0 : List ByteArray) (a1 : ByteArray) (r : ByteArray) (w : World) (hr0 : Kd.C Kd.string w A0 l0.length l0) (hc0 : l0.length ≤ c0) (h : strings_Join.f l0 a1 = some r) :
    Calls Tryd.prog 62 #[.slice A0 l0.length c0, .string a1] w fun e w' => e = .returned (.string r) ∧ Below w.heap.size w w' := by
  unfold strings_Join.f at h
  split at h
  · rename_i hb
    obtain rfl := Option.some.inj h
    have hr := Kd.reads_of_C (d := ByteArray.empty) hr0
    cases l0 with
    | nil =>
      refine (Tryd.strings_Join_none A0 c0 a1 w).mono ?_
      rintro e w' ⟨rfl, rfl⟩
      exact ⟨rfl, Below.refl _ _⟩
    | cons x l =>
      obtain ⟨ad, rfl, hc⟩ := hr.2.2 (by simp)
      obtain ⟨bk, o, rfl⟩ : ∃ bk o, ad = ⟨bk, o, none⟩ := by
        have h0 := hc 0 (by simp)
        rw [add_zero'] at h0
        obtain ⟨bk, o, p⟩ := ad
        cases p with
        | none => exact ⟨bk, o, rfl⟩
        | some p =>
          simp [World.cell?] at h0
          split at h0 <;> cases h0
      have hcells : ∀ (j : Nat) y, (x :: l)[j]? = some y → w.cell? ⟨bk, o + j, none⟩ = some (.string y) := by
        intro j y hj
        have hlt : j < (x :: l).length := by
          rcases Nat.lt_or_ge j (x :: l).length with h | h
          · exact h
          · rw [List.getElem?_eq_none h] at hj; cases hj
        have h1 := hc j hlt
        have e : (⟨bk, o, none⟩ : Addr).add j = ⟨bk, o + j, none⟩ := by
          unfold Addr.add
          split
          · rename_i hj0; simp_all
          · rfl
        rw [e] at h1
        rw [h1, List.getD_eq_getElem?_getD, hj]
        rfl
      refine (Tryd.strings_Join bk o c0 (x :: l) a1 w hcells ?_ (by omega) hc0 (by have := hb.2; unfold joinB at this; omega)).mono ?_
      · have := hcells 0 x rfl
        exact World.block_lt_of_cell? w _ this
      · rintro e w' ⟨rfl, h2⟩
        exact ⟨rfl, h2⟩
  · cases h
end Go.Proofs.YtfaelejeihmgcaaDoor.Wd
end

section
namespace Go.Proofs.YtfaelejeihmgcaaDoor.Wd
/-- how many bytes the rune at a place has -/
def width (s : ByteArray) (i : Nat) : Nat := (Utf8.decode s i).2
def hexD (n : Nat) : UInt8 := if n < 10 then (48 + n).toUInt8 else (87 + n).toUInt8
theorem width_pos (s : ByteArray) (i : Nat) : 1 ≤ width s i := by
  unfold width
  rw [Lib.decode_at]
  unfold Lib.decodeN
  repeat' split
  all_goals simp
theorem width_le (s : ByteArray) (i : Nat) (h : i < s.size) : i + width s i ≤ s.size := by
  unfold width
  rw [Lib.decode_at]
  unfold Lib.decodeN
  repeat' split
  all_goals simp
  all_goals omega
end Go.Proofs.YtfaelejeihmgcaaDoor.Wd
end

section
namespace Go.Proofs.YtfaelejeihmgcaaDoor.Wd
open Go.RowKit Go.Proofs.YtfaelejeihmgcaaDoorW.PrintWords Go.Proofs.YtfaelejeihmgcaaDoorW.PrintLast
def hex1 (c : UInt8) : List UInt8 := [hexD (c.toNat / 16), hexD (c.toNat % 16)]
def hexB (s : ByteArray) : List UInt8 := if s.size = 0 then [45] else s.data.toList.flatMap hex1
def cachepotref3_Hex.f (a0 : ByteArray) : Option ByteArray := if a0.size ≤ 1099511627776 then some ⟨(hexB a0).toArray⟩ else none
theorem ret_strF {a b : ByteArray} (h : a = b) : Ending.returned (.string a) = .returned (.string b) := by rw [h]
theorem hex1s_length (l : List UInt8) : (l.flatMap hex1).length = 2 * l.length := by
  induction l with
  | nil => rfl
  | cons c l ih => rw [List.flatMap_cons, List.length_append, ih]; simp [hex1]; omega
abbrev DIGF : ByteArray := ⟨#[48, 49, 50, 51, 52, 53, 54, 55, 56, 57, 97, 98, 99, 100, 101, 102]⟩
theorem digF_at : ∀ h : Fin 16, DIGF[h.val]? = some (hexD h.val) := by decide
theorem index_dig (n : Nat) (hn : n < 16) (x : Int) (hx : x = n) (W : World) : (Instr.index 9 (.string DIGF) (.int .u8 x)).run Tryd.prog W = .ok (.int .u8 ((hexD n).toNat : Int)) W := by
  subst hx
  have h1 : (0 : Int) ≤ (n : Int) ∧ (n : Int) < (DIGF.size : Int) := ⟨by omega, by show (n : Int) < (16 : Nat); omega⟩
  have e := digF_at ⟨n, hn⟩
  have h2 : n < DIGF.size := hn
  rw [getElem?_pos DIGF n h2] at e
  have e3 : DIGF[n] = hexD n := Option.some.inj e
  rw [run_index_string W 9 DIGF .u8 (n : Int) Tryd.underlying9, dif_pos h1]
  have e2 : ((n : Nat) : Int).toNat = n := by omega
  simp only [e2, e3]
end Go.Proofs.YtfaelejeihmgcaaDoor.Wd
end

section
namespace Go.Proofs.YtfaelejeihmgcaaDoor.Lgx
open Go.RowKit Go.Sort Go.Proofs.YtfaelejeihmgcaaDoorW.PrintWords Go.Proofs.YtfaelejeihmgcaaDoorW.PrintLast
abbrev strings_Join.f (l0 : List ByteArray) (a1 : ByteArray) : Option ByteArray := Wd.strings_Join.f l0 a1
theorem strings_Join.calls (A0 : Option Addr) (c0 : Nat) (l0 : List ByteArray) (a1 : ByteArray) (r : ByteArray) (w : World) (hr0 : Kd.C Kd.string w A0 l0.length l0) (hc0 : l0.length ≤ c0) (h : strings_Join.f l0 a1 = some r) :
    Calls Tryd.prog 62 #[.slice A0 l0.length c0, .string a1] w fun e w' => e = .returned (.string r) ∧ Below w.heap.size w w' := Wd.strings_Join.calls A0 c0 l0 a1 r w hr0 hc0 h
abbrev cachepotref3_Hex.f (a0 : ByteArray) : Option ByteArray := Wd.cachepotref3_Hex.f a0
def ledger_hex.f (a0 : ByteArray) : Option ByteArray := if a0.size ≤ 1099511627776 then some ⟨(Wd.hexB a0).toArray⟩ else none
set_option maxHeartbeats 4000000 in
set_option maxRecDepth 100000 in
theorem ledger_hex.calls (a0 : ByteArray) (r : ByteArray) (w : World) (h : ledger_hex.f a0 = some r) :
    Calls Tryd.prog 65 #[.string a0] w fun e w' => e = .returned (.string r) ∧ Below w.heap.size w w' := by
  have hs : a0.size ≤ 1099511627776 := by
    unfold ledger_hex.f at h
    split at h
    · assumption
    · cases h
  have hr : Aside0 (⟨(Wd.hexB a0).toArray⟩ = r) := ⟨by unfold ledger_hex.f at h; rw [if_pos hs] at h; exact Option.some.inj h⟩
  clear h
  by_cases h0 : a0.size = 0
  · have e0 : (a0.toList == ([] : List UInt8)) = true := by
      rw [Lib.toList_data, beq_iff_eq, ← List.length_eq_zero_iff, ← Lib.size_eq]; exact h0
    have e1 : a0.toList.isEmpty = true := by
      rw [Lib.toList_data, List.isEmpty_iff, ← List.length_eq_zero_iff, ← Lib.size_eq]; exact h0
    have H0 := Lib.hid h0
    clear h0
    go_enter Tryd.func65, Tryd.ntmps65
    go_wp2
    go_ret
    exact ⟨Wd.ret_strF (by rw [← hr.out, Wd.hexB, if_pos H0.out]), Below.refl _ _⟩
  · have e1 : a0.toList.isEmpty = false := by
      rw [Lib.toList_data]
      rw [Lib.size_eq] at h0
      cases hl : a0.data.toList with
      | nil => rw [hl] at h0; simp at h0
      | cons => rfl
    have hF := Bld.Is.fresh w
    go_enter Tryd.func65, Tryd.ntmps65
    go_wp2
    go_loopw [9] (fun i wr => ∃ (k : Nat) (v : Value), k ≤ a0.size ∧ i = .int .i64 k ∧ Bld.Is w.heap.size w.heap.size v ((a0.data.toList.take k).flatMap Wd.hex1) wr ∧ Below w.heap.size w wr) (fun i _ => a0.size - (intOf i).toNat)
    case atStart => exact ⟨0, _, Nat.zero_le _, rfl, hF, below_alloc (Below.refl _ _) _⟩
    case round =>
      clear hF
      obtain ⟨k, v, hk, rfl, hI, hbw⟩ := hrel
      by_cases hlt : k < a0.size
      · have hc255 := a0[k].toNat_lt
        have ix1 : ∀ W : World, (Instr.index 9 (.string Wd.DIGF) (.int .u8 (((a0[k].toNat : Nat) : Int) / 16))).run Tryd.prog W = .ok (.int .u8 ((Wd.hexD (a0[k].toNat / 16)).toNat : Int)) W := fun W => Wd.index_dig _ (by omega) _ (by omega) W
        have ix2 : ∀ W : World, (Instr.index 9 (.string Wd.DIGF) (.int .u8 (((a0[k].toNat : Nat) : Int) % 16))).run Tryd.prog W = .ok (.int .u8 ((Wd.hexD (a0[k].toNat % 16)).toNat : Int)) W := fun W => Wd.index_dig _ (by omega) _ (by omega) W
        have hbe := hbw.size
        have hstep : (a0.data.toList.take k).flatMap Wd.hex1 ++ [Wd.hexD (a0[k].toNat / 16)] ++ [Wd.hexD (a0[k].toNat % 16)] = (a0.data.toList.take (k + 1)).flatMap Wd.hex1 := by
          rw [List.take_succ_eq_append_getElem (by rw [← Lib.size_eq]; exact hlt), List.flatMap_append, List.append_assoc]
          congr 1
        have hll : ((a0.data.toList.take k).flatMap Wd.hex1).length ≤ 2199023255552 := by
          rw [Wd.hex1s_length]
          have := List.length_take_le k a0.data.toList
          omega
        have Hstep := Lib.hid hstep
        clear hstep
        have step1 := Bld.writeByte w.heap.size w.heap.size v _ (Wd.hexD (a0[k].toNat / 16)) wr hI (by omega) hbe
        have hl2 : ((a0.data.toList.take k).flatMap Wd.hex1 ++ [Wd.hexD (a0[k].toNat / 16)]).length + 1 ≤ 140737488355328 := by
          rw [List.length_append, List.length_singleton]; omega
        have step2 := fun w2 v2 hI2 hbe3 => Bld.writeByte w.heap.size w.heap.size v2 _ (Wd.hexD (a0[k].toNat % 16)) w2 hI2 hl2 hbe3
        clear hll hl2
        go_wp2_with fail
        refine step1.mono ?_
        rintro e w2 ⟨rfl, v2, hI2, hb2, _⟩
        have hb3 := hbw.trans hb2
        have hbe3 := hb3.size
        go_wp2_with fail
        refine (step2 w2 v2 hI2 hbe3).mono ?_
        rintro e w4 ⟨rfl, v4, hI4, hb4, _⟩
        rw [Hstep.out] at hI4
        go_wp2
        go_roundw
        case rel => exact ⟨k + 1, v4, hlt, by simp, hI4, hb3.trans hb4⟩
        case measure => simp [intOf]; omega
      · have hke : k = a0.size := by omega
        subst hke
        have hend : (⟨((a0.data.toList.take a0.size).flatMap Wd.hex1).toArray⟩ : ByteArray) = ⟨(Wd.hexB a0).toArray⟩ := by
          rw [Wd.hexB, if_neg h0, List.take_of_length_le (by rw [← Lib.size_eq]; exact Nat.le_refl _)]
        have Hend := Lib.hid hend
        clear hend
        go_wp2_with fail
        refine (Bld.string w.heap.size w.heap.size v _ wr hI hbw.size).mono ?_
        rintro e w2 ⟨rfl, hb2⟩
        go_wp2
        go_ret
        exact ⟨Wd.ret_strF (Hend.out.trans hr.out), hbw.trans hb2⟩
/-- a number's digits -/
def decB (v : Int) : ByteArray := ⟨(Lib.decDigits v.toNat).toArray⟩
def ledger_decimal.f (a0 : Int) : Option ByteArray := if 0 ≤ a0 ∧ a0 ≤ 4294967295 then some (decB a0) else none
end Go.Proofs.YtfaelejeihmgcaaDoor.Lgx
end

section
namespace Go.Proofs.YtfaelejeihmgcaaDoor.Lgx
open Go.RowKit Go.Proofs.YtfaelejeihmgcaaDoorW.PrintWords Go.Proofs.YtfaelejeihmgcaaDoorW.PrintLast Go.Proofs.YtfaelejeihmgcaaDoorW.PrintMore
attribute [local go_sem] max2_int min2_int max_two min_two max_three min_three max_four min_four   -- for this text's walks alone
set_option linter.unusedVariables false
set_option linter.unusedSimpArgs false
mutual
def ledger_Line.l0 : Nat → List ByteArray → List (S101) → Int → Int → Option (ByteArray)
  | 0, _, _, _, _ => none
  | k + 1, x3, x19, x20, x21 => if x21 < x20 then (if 0 ≤ x21 then (if x21 < (x19.length : Int) then (if (rd_T101 x19 x21).f1 = true then ((ledger_hex.f ((rd_T101 x19 x21).f0)).bind fun t109 => (if t109.size + 1 ≤ 9223372036854775807 then (if x3.length < 8796093022208 then (ledger_Line.l0 k (x3 ++ [t109 ++ (⟨#[33]⟩ : ByteArray)]) x19 x20 (wrap64 (x21 + 1))) else (none)) else (none))) else ((ledger_hex.f ((rd_T101 x19 x21).f0)).bind fun t113 => (if t113.size + 1 ≤ 9223372036854775807 then ((ledger_hex.f ((rd_T101 x19 x21).f2)).bind fun t114 => (if (t113 ++ (⟨#[61]⟩ : ByteArray)).size + t114.size ≤ 9223372036854775807 then (if x3.length < 8796093022208 then (ledger_Line.l0 k (x3 ++ [(t113 ++ (⟨#[61]⟩ : ByteArray)) ++ t114]) x19 x20 (wrap64 (x21 + 1))) else (none)) else (none))) else (none)))) else (none)) else (none)) else ((strings_Join.f x3 (⟨#[32]⟩ : ByteArray)).bind fun t106 => (some t106))
def ledger_Line.l1 : Nat → List ByteArray → List (S98) → Int → Int → Option (ByteArray)
  | 0, _, _, _, _ => none
  | k + 1, x3, x50, x51, x52 => if x52 < x51 then (if 0 ≤ x52 then (if x52 < (x50.length : Int) then (if (rd_T98 x50 x52).f1 = true then ((ledger_hex.f ((rd_T98 x50 x52).f0)).bind fun t124 => (if t124.size + 1 ≤ 9223372036854775807 then ((ledger_hex.f ((rd_T98 x50 x52).f2)).bind fun t125 => (if (t124 ++ (⟨#[61]⟩ : ByteArray)).size + t125.size ≤ 9223372036854775807 then (if ((t124 ++ (⟨#[61]⟩ : ByteArray)) ++ t125).size + 1 ≤ 9223372036854775807 then ((ledger_decimal.f ((rd_T98 x50 x52).f3)).bind fun t126 => (if (((t124 ++ (⟨#[61]⟩ : ByteArray)) ++ t125) ++ (⟨#[64]⟩ : ByteArray)).size + t126.size ≤ 9223372036854775807 then (if x3.length < 8796093022208 then (ledger_Line.l1 k (x3 ++ [(((t124 ++ (⟨#[61]⟩ : ByteArray)) ++ t125) ++ (⟨#[64]⟩ : ByteArray)) ++ t126]) x50 x51 (wrap64 (x52 + 1))) else (none)) else (none))) else (none)) else (none))) else (none))) else ((ledger_hex.f ((rd_T98 x50 x52).f0)).bind fun t130 => (if t130.size + 1 ≤ 9223372036854775807 then (if x3.length < 8796093022208 then (ledger_Line.l1 k (x3 ++ [t130 ++ (⟨#[63]⟩ : ByteArray)]) x50 x51 (wrap64 (x52 + 1))) else (none)) else (none)))) else (none)) else (none)) else ((strings_Join.f x3 (⟨#[32]⟩ : ByteArray)).bind fun t121 => (some t121))
def ledger_Line.l2 : Nat → List ByteArray → List ByteArray → Int → Int → Option (ByteArray)
  | 0, _, _, _, _ => none
  | k + 1, x3, x86, x87, x88 => if x88 < x87 then (if 0 ≤ x88 then (if x88 < (x86.length : Int) then ((ledger_hex.f (rdOf ByteArray.empty x86 x88)).bind fun t138 => (if x3.length < 8796093022208 then (ledger_Line.l2 k (x3 ++ [t138]) x86 x87 (wrap64 (x88 + 1))) else (none))) else (none)) else (none)) else ((strings_Join.f x3 (⟨#[32]⟩ : ByteArray)).bind fun t142 => (some t142))
end
def ledger_Line.f (k : Nat) (a0_0 : Int) (a0_1 : Int) (l0_2 : List (S101)) (l0_3 : List (S98)) (l0_4 : List ByteArray) : Option (ByteArray) := if a0_0 = 1 then ((ledger_decimal.f a0_1).bind fun t102 => (ledger_Line.l0 k (([(⟨#[99, 111, 109, 109, 105, 116]⟩ : ByteArray), t102] : List ByteArray)) l0_2 (l0_2.length : Int) 0)) else (if a0_0 = 2 then (ledger_Line.l1 k (([(⟨#[103, 111, 116]⟩ : ByteArray)] : List ByteArray)) l0_3 (l0_3.length : Int) 0) else (if a0_0 = 3 then (ledger_Line.l2 k (([(⟨#[102, 111, 114, 103, 111, 116]⟩ : ByteArray)] : List ByteArray)) l0_4 (l0_4.length : Int) 0) else ((strings_Join.f ([] : List ByteArray) (⟨#[32]⟩ : ByteArray)).bind fun t143 => (some t143))))
end Go.Proofs.YtfaelejeihmgcaaDoor.Lgx
end

section
namespace Go.Proofs.YtfaelejeihmgcaaDoor.Lgx
open Go.RowKit Go.Proofs.YtfaelejeihmgcaaDoorW.PrintWords Go.Proofs.YtfaelejeihmgcaaDoorW.PrintLast Go.Proofs.YtfaelejeihmgcaaDoorW.PrintMore
attribute [local go_sem] max2_int min2_int max_two min_two max_three min_three max_four min_four   -- for this text's walks alone
set_option linter.unusedVariables false
set_option linter.unusedSimpArgs false
theorem eqA98 (d : Nat) (w : World) (x0 y0 : ByteArray) (x1 y1 : Bool) (x2 y2 : ByteArray) (x3 y3 : Int) :
    (Op.equalIn (d + 2) 98 (.agg #[.string x0, .bool x1, .string x2, .int .u32 x3]) (.agg #[.string y0, .bool y1, .string y2, .int .u32 y3])).run Tryd.prog w = .ok (x0.toList == y0.toList && (x1 == y1 && (x2.toList == y2.toList && (x3 == y3)))) w := by
  refine eqA_of Tryd.underlying98 (by kernel_rfl) ?_
  refine eqf_cons (by rfl) (by go_simp; rfl) (by go_simp; rfl) (by go_simp) ?_
  refine eqf_cons (by rfl) (by go_simp; rfl) (by go_simp; rfl) (by go_simp) ?_
  refine eqf_cons (by rfl) (by go_simp; rfl) (by go_simp; rfl) (by go_simp) ?_
  exact eqf_last (by rfl) (by go_simp; rfl) (by go_simp; rfl) (by go_simp)
end Go.Proofs.YtfaelejeihmgcaaDoor.Lgx
end

section
namespace Go.Proofs.YtfaelejeihmgcaaDoor.Lgx
open Go.RowKit Go.Proofs.YtfaelejeihmgcaaDoorW.PrintWords Go.Proofs.YtfaelejeihmgcaaDoorW.PrintLast Go.Proofs.YtfaelejeihmgcaaDoorW.PrintMore
attribute [local go_sem] max2_int min2_int max_two min_two max_three min_three max_four min_four   -- for this text's walks alone
set_option linter.unusedVariables false
set_option linter.unusedSimpArgs false
attribute [local go_sem high] eqA98
def api_Answer.l0 : Nat → List (S98) → List (S98) → Int → Int → Option (Bool)
  | 0, _, _, _, _ => none
  | k + 1, x0, x1, x12, x13 => if x13 < x12 then (if 0 ≤ x13 then (if x13 < (x0.length : Int) then (if x13 < (x1.length : Int) then (if (!((((rd_T98 x0 x13).f0).toList) == (((rd_T98 x1 x13).f0).toList)) || (!(((rd_T98 x0 x13).f1) == ((rd_T98 x1 x13).f1)) || (!((((rd_T98 x0 x13).f2).toList) == (((rd_T98 x1 x13).f2).toList)) || (!(((rd_T98 x0 x13).f3) == ((rd_T98 x1 x13).f3)))))) = true then (some false) else (api_Answer.l0 k x0 x1 x12 (wrap64 (x13 + 1)))) else (none)) else (none)) else (none)) else (some true)
def api_Answer.f (k : Nat) (l0 : List (S98)) (l1 : List (S98)) : Option (Bool) := if (l0.length : Int) = (l1.length : Int) then (api_Answer.l0 k l0 l1 (l0.length : Int) 0) else (some false)
set_option maxHeartbeats 8000000 in
set_option maxRecDepth 100000 in
theorem api_Answer.calls (k : Nat) (A0 : Option Addr) (c0 : Nat) (l0 : List (S98)) (A1 : Option Addr) (c1 : Nat) (l1 : List (S98)) (r : Bool) (w : World) (hr0 : Kd.C k98 w A0 l0.length l0) (hc0 : l0.length ≤ c0) (hr1 : Kd.C k98 w A1 l1.length l1) (hc1 : l1.length ≤ c1) (h : api_Answer.f k l0 l1 = some r) :
    Calls Tryd.prog 75 #[.slice A0 l0.length c0, .slice A1 l1.length c1] w fun e w' => e = .returned (.bool r) ∧ Drawn0 w w' := by
  have hu98 := Tryd.underlying98
  have HR0 := Aside0.mk hr0
  have HC0 := Aside0.mk hc0
  clear hr0 hc0
  have HR1 := Aside0.mk hr1
  have HC1 := Aside0.mk hc1
  clear hr1 hc1
  have H : (if (l0.length : Int) = (l1.length : Int) then (api_Answer.l0 k l0 l1 (l0.length : Int) 0) else (some false)) = some r := h
  clear h
  by_cases c3 : (l0.length : Int) = (l1.length : Int)
  · rw [if_pos c3] at H
    have c3b0 : ((l0.length : Int) == (l1.length : Int)) = true := beq_iff_eq.mpr c3
    have c3b1 : ((l0.length : Int) != (l1.length : Int)) = false := bne_eq_false_iff_eq.mpr c3
    have c3b2 : (l0.length == l1.length) = true := by first | simpa using c3 | (simp at c3 ⊢; omega)
    clear c3
    have H' := Aside0.mk H
    clear H
    go_enter Tryd.func75, Tryd.ntmps75
    go_wp2
    repeat (go_quiet (fail); try go_wp2)
    go_loopg [13] k (fun kq v13 w' => ∃ (x13_1 : Int), v13 = .int .i64 x13_1 ∧ Aside0 (api_Answer.l0 kq l0 l1 (l0.length : Int) x13_1 = some r) ∧ Aside0 (kq ≤ k) ∧ Drawn0 w w')
    case atStart => exact ⟨(0), (by first | rfl | (simp; done) | (simp [*]; done)), H', ⟨Nat.le_refl _⟩, by repeat (first | exact Drawn0.refl _ | apply Drawn0.step)⟩
    case round =>
      clear H'
      try clear c1
      try clear p2
      try clear c3
      try clear c3b0
      try clear c3b1
      try clear c3b2
      obtain ⟨x13_1, rfl, HA, HK1, ⟨m1, rfl⟩⟩ := hrel
      cases gk with
      | zero => exact absurd HA.out (by simp [api_Answer.l0])
      | succ k1 =>
        have H := HA.out
        clear HA
        simp only [api_Answer.l0] at H
        by_cases c4 : x13_1 < (l0.length : Int)
        · rw [if_pos c4] at H
          have c4b0 : decide (x13_1 < (l0.length : Int)) = true := decide_eq_true c4
          clear c4
          by_cases c5 : 0 ≤ x13_1
          · rw [if_pos c5] at H
            have c5b0 : decide (0 ≤ x13_1) = true := decide_eq_true c5
            clear c5
            by_cases c6 : x13_1 < (l0.length : Int)
            · rw [if_pos c6] at H
              have c6b0 : decide (x13_1 < (l0.length : Int)) = true := decide_eq_true c6
              clear c6
              by_cases c7 : x13_1 < (l1.length : Int)
              · rw [if_pos c7] at H
                have c7b0 : decide (x13_1 < (l1.length : Int)) = true := decide_eq_true c7
                clear c7
                by_cases c8 : (!((((rd_T98 l0 x13_1).f0).toList) == (((rd_T98 l1 x13_1).f0).toList)) || (!(((rd_T98 l0 x13_1).f1) == ((rd_T98 l1 x13_1).f1)) || (!((((rd_T98 l0 x13_1).f2).toList) == (((rd_T98 l1 x13_1).f2).toList)) || (!(((rd_T98 l0 x13_1).f3) == ((rd_T98 l1 x13_1).f3)))))) = true
                · rw [if_pos c8] at H
                  have c8b0 : (!((((rd_T98 l0 x13_1).f0).toList) == (((rd_T98 l1 x13_1).f0).toList)) || (!(((rd_T98 l0 x13_1).f1) == ((rd_T98 l1 x13_1).f1)) || (!((((rd_T98 l0 x13_1).f2).toList) == (((rd_T98 l1 x13_1).f2).toList)) || (!(((rd_T98 l0 x13_1).f3) == ((rd_T98 l1 x13_1).f3)))))) = true := c8
                  clear c8
                  obtain rfl := Option.some.inj H
                  have p144 : 0 ≤ (x13_1 : Int) := of_decide_eq_true (by first | (with_reducible assumption) | assumption)
                  have q144 : x13_1 < (l0.length : Int) := of_decide_eq_true (by first | (with_reducible assumption) | assumption)
                  obtain ⟨ad144, e144, hx144_0, hx144_1, hx144_2, hx144_3⟩ := at_T98 HR0.out x13_1 p144 q144
                  cases e144
                  replace p144 := eq_true p144
                  replace q144 := eq_true q144
                  have p145 : 0 ≤ (x13_1 : Int) := of_decide_eq_true (by first | (with_reducible assumption) | assumption)
                  have q145 : x13_1 < (l1.length : Int) := of_decide_eq_true (by first | (with_reducible assumption) | assumption)
                  obtain ⟨ad145, e145, hx145_0, hx145_1, hx145_2, hx145_3⟩ := at_T98 HR1.out x13_1 p145 q145
                  cases e145
                  replace p145 := eq_true p145
                  replace q145 := eq_true q145
                  go_wp2
                  repeat (go_quiet (fail); try go_wp2)
                  go_ret
                  exact ⟨by first | rfl | (simp; done) | (simp [*]; done), by repeat (first | exact Drawn0.refl _ | apply Drawn0.step)⟩
                · rw [if_neg c8] at H
                  have c8b0 : (!((((rd_T98 l0 x13_1).f0).toList) == (((rd_T98 l1 x13_1).f0).toList)) || (!(((rd_T98 l0 x13_1).f1) == ((rd_T98 l1 x13_1).f1)) || (!((((rd_T98 l0 x13_1).f2).toList) == (((rd_T98 l1 x13_1).f2).toList)) || (!(((rd_T98 l0 x13_1).f3) == ((rd_T98 l1 x13_1).f3)))))) = false := by simpa using c8
                  clear c8
                  have H' := Aside0.mk H
                  clear H
                  have p144 : 0 ≤ (x13_1 : Int) := of_decide_eq_true (by first | (with_reducible assumption) | assumption)
                  have q144 : x13_1 < (l0.length : Int) := of_decide_eq_true (by first | (with_reducible assumption) | assumption)
                  obtain ⟨ad144, e144, hx144_0, hx144_1, hx144_2, hx144_3⟩ := at_T98 HR0.out x13_1 p144 q144
                  cases e144
                  replace p144 := eq_true p144
                  replace q144 := eq_true q144
                  have p145 : 0 ≤ (x13_1 : Int) := of_decide_eq_true (by first | (with_reducible assumption) | assumption)
                  have q145 : x13_1 < (l1.length : Int) := of_decide_eq_true (by first | (with_reducible assumption) | assumption)
                  obtain ⟨ad145, e145, hx145_0, hx145_1, hx145_2, hx145_3⟩ := at_T98 HR1.out x13_1 p145 q145
                  cases e145
                  replace p145 := eq_true p145
                  replace q145 := eq_true q145
                  go_wp2
                  repeat (go_quiet (fail); try go_wp2)
                  go_roundg k1
                  case measure => have := HK1.out; omega
                  case rel => exact ⟨(wrap64 (x13_1 + 1)), (by first | rfl | (simp; done) | (simp [*]; done)), H', ⟨by have := HK1.out; omega⟩, by repeat (first | exact Drawn0.refl _ | apply Drawn0.step)⟩
              · rw [if_neg c7] at H
                exact absurd H (by simp)
            · rw [if_neg c6] at H
              exact absurd H (by simp)
          · rw [if_neg c5] at H
            exact absurd H (by simp)
        · rw [if_neg c4] at H
          have c4b0 : decide (x13_1 < (l0.length : Int)) = false := decide_eq_false c4
          clear c4
          obtain rfl := Option.some.inj H
          go_wp2
          repeat (go_quiet (fail); try go_wp2)
          go_ret
          exact ⟨by first | rfl | (simp; done) | (simp [*]; done), by repeat (first | exact Drawn0.refl _ | apply Drawn0.step)⟩
  · rw [if_neg c3] at H
    have c3b0 : ((l0.length : Int) == (l1.length : Int)) = false := beq_eq_false_iff_ne.mpr c3
    have c3b1 : ((l0.length : Int) != (l1.length : Int)) = true := bne_iff_ne.mpr c3
    have c3b2 : (l0.length == l1.length) = false := by first | simpa using c3 | (simp at c3 ⊢; omega)
    obtain rfl := Option.some.inj H
    go_enter Tryd.func75, Tryd.ntmps75
    go_wp2
    repeat (go_quiet (fail); try go_wp2)
    go_ret
    exact ⟨by first | rfl | (simp; done) | (simp [*]; done), by repeat (first | exact Drawn0.refl _ | apply Drawn0.step)⟩
def cachepotref3_Digits.f : Nat → Int → Option (ByteArray)
  | 0, _ => none
  | k + 1, a0 => if a0 ≤ (-10) then ((cachepotref3_Digits.f k (wrap64 (Int.tdiv a0 10))).bind fun t146 => ((some (([(wrap64 (48 - (Int.tmod a0 10))) % 256] : List Int) : List Int)).bind fun y147 => (if t146.size + (strOfNums y147).size ≤ 9223372036854775807 then (some (t146 ++ (strOfNums y147))) else (none)))) else (if a0 < 0 then ((some (([(wrap64 (48 - a0)) % 256] : List Int) : List Int)).bind fun y150 => (if 1 + (strOfNums y150).size ≤ 9223372036854775807 then (some ((⟨#[45]⟩ : ByteArray) ++ (strOfNums y150))) else (none))) else (if a0 < 10 then (some (strOfNums (([(wrap64 (48 + a0)) % 256] : List Int)))) else ((cachepotref3_Digits.f k (wrap64 (Int.tdiv a0 10))).bind fun t156 => ((cachepotref3_Digits.f k (Int.tmod a0 10)).bind fun t157 => (if t156.size + t157.size ≤ 9223372036854775807 then (some (t156 ++ t157)) else (none))))))
end Go.Proofs.YtfaelejeihmgcaaDoor.Lgx
end

section
namespace Go.Proofs.YtfaelejeihmgcaaDoor.Lgx
open Go.RowKit Go.Proofs.YtfaelejeihmgcaaDoorW.PrintWords Go.Proofs.YtfaelejeihmgcaaDoorW.PrintLast Go.Proofs.YtfaelejeihmgcaaDoorW.PrintMore
attribute [local go_sem] max2_int min2_int max_two min_two max_three min_three max_four min_four   -- for this text's walks alone
set_option linter.unusedVariables false
set_option linter.unusedSimpArgs false
mutual
def cachepotref3_Line.l0 : Nat → ByteArray → Int → Int → Int → List (S101) → List (S98) → List ByteArray → Option (ByteArray)
  | 0, _, _, _, _, _, _, _ => none
  | k + 1, x3, x4, x159000, x159001, x159002, x159003, x159004 => if x4 < (x159002.length : Int) then (if 0 ≤ x4 then (if (rd_T101 x159002 x4).f1 = true then ((cachepotref3_Hex.f ((rd_T101 x159002 x4).f0)).bind fun t162 => (if 1 + t162.size ≤ 9223372036854775807 then (if ((⟨#[32]⟩ : ByteArray) ++ t162).size + 1 ≤ 9223372036854775807 then (if x3.size + (((⟨#[32]⟩ : ByteArray) ++ t162) ++ (⟨#[33]⟩ : ByteArray)).size ≤ 9223372036854775807 then (cachepotref3_Line.l0 k (x3 ++ (((⟨#[32]⟩ : ByteArray) ++ t162) ++ (⟨#[33]⟩ : ByteArray))) (wrap64 (x4 + 1)) x159000 x159001 x159002 x159003 x159004) else (none)) else (none)) else (none))) else ((cachepotref3_Hex.f ((rd_T101 x159002 x4).f0)).bind fun t164 => (if 1 + t164.size ≤ 9223372036854775807 then (if ((⟨#[32]⟩ : ByteArray) ++ t164).size + 1 ≤ 9223372036854775807 then ((cachepotref3_Hex.f ((rd_T101 x159002 x4).f2)).bind fun t166 => (if (((⟨#[32]⟩ : ByteArray) ++ t164) ++ (⟨#[61]⟩ : ByteArray)).size + t166.size ≤ 9223372036854775807 then (if x3.size + ((((⟨#[32]⟩ : ByteArray) ++ t164) ++ (⟨#[61]⟩ : ByteArray)) ++ t166).size ≤ 9223372036854775807 then (cachepotref3_Line.l0 k (x3 ++ ((((⟨#[32]⟩ : ByteArray) ++ t164) ++ (⟨#[61]⟩ : ByteArray)) ++ t166)) (wrap64 (x4 + 1)) x159000 x159001 x159002 x159003 x159004) else (none)) else (none))) else (none)) else (none)))) else (none)) else (some x3)
def cachepotref3_Line.l1 : Nat → ByteArray → Int → Int → Int → List (S101) → List (S98) → List ByteArray → Option (ByteArray)
  | 0, _, _, _, _, _, _, _ => none
  | k + 1, x3, x5, x159000, x159001, x159002, x159003, x159004 => if x5 < (x159003.length : Int) then (if 0 ≤ x5 then (if (rd_T98 x159003 x5).f1 = true then ((cachepotref3_Hex.f ((rd_T98 x159003 x5).f0)).bind fun t169 => (if 1 + t169.size ≤ 9223372036854775807 then (if ((⟨#[32]⟩ : ByteArray) ++ t169).size + 1 ≤ 9223372036854775807 then ((cachepotref3_Hex.f ((rd_T98 x159003 x5).f2)).bind fun t171 => (if (((⟨#[32]⟩ : ByteArray) ++ t169) ++ (⟨#[61]⟩ : ByteArray)).size + t171.size ≤ 9223372036854775807 then (if ((((⟨#[32]⟩ : ByteArray) ++ t169) ++ (⟨#[61]⟩ : ByteArray)) ++ t171).size + 1 ≤ 9223372036854775807 then ((cachepotref3_Digits.f k (wrap64 ((rd_T98 x159003 x5).f3))).bind fun t173 => (if (((((⟨#[32]⟩ : ByteArray) ++ t169) ++ (⟨#[61]⟩ : ByteArray)) ++ t171) ++ (⟨#[64]⟩ : ByteArray)).size + t173.size ≤ 9223372036854775807 then (if x3.size + ((((((⟨#[32]⟩ : ByteArray) ++ t169) ++ (⟨#[61]⟩ : ByteArray)) ++ t171) ++ (⟨#[64]⟩ : ByteArray)) ++ t173).size ≤ 9223372036854775807 then (cachepotref3_Line.l1 k (x3 ++ ((((((⟨#[32]⟩ : ByteArray) ++ t169) ++ (⟨#[61]⟩ : ByteArray)) ++ t171) ++ (⟨#[64]⟩ : ByteArray)) ++ t173)) (wrap64 (x5 + 1)) x159000 x159001 x159002 x159003 x159004) else (none)) else (none))) else (none)) else (none))) else (none)) else (none))) else ((cachepotref3_Hex.f ((rd_T98 x159003 x5).f0)).bind fun t175 => (if 1 + t175.size ≤ 9223372036854775807 then (if ((⟨#[32]⟩ : ByteArray) ++ t175).size + 1 ≤ 9223372036854775807 then (if x3.size + (((⟨#[32]⟩ : ByteArray) ++ t175) ++ (⟨#[63]⟩ : ByteArray)).size ≤ 9223372036854775807 then (cachepotref3_Line.l1 k (x3 ++ (((⟨#[32]⟩ : ByteArray) ++ t175) ++ (⟨#[63]⟩ : ByteArray))) (wrap64 (x5 + 1)) x159000 x159001 x159002 x159003 x159004) else (none)) else (none)) else (none)))) else (none)) else (some x3)
def cachepotref3_Line.l2 : Nat → ByteArray → Int → Int → Int → List (S101) → List (S98) → List ByteArray → Option (ByteArray)
  | 0, _, _, _, _, _, _, _ => none
  | k + 1, x3, x6, x159000, x159001, x159002, x159003, x159004 => if x6 < (x159004.length : Int) then (if 0 ≤ x6 then ((cachepotref3_Hex.f (rdOf ByteArray.empty x159004 x6)).bind fun t177 => (if 1 + t177.size ≤ 9223372036854775807 then (if x3.size + ((⟨#[32]⟩ : ByteArray) ++ t177).size ≤ 9223372036854775807 then (cachepotref3_Line.l2 k (x3 ++ ((⟨#[32]⟩ : ByteArray) ++ t177)) (wrap64 (x6 + 1)) x159000 x159001 x159002 x159003 x159004) else (none)) else (none))) else (none)) else (some x3)
end
def cachepotref3_Line.f (k : Nat) (a0_0 : Int) (a0_1 : Int) (l0_2 : List (S101)) (l0_3 : List (S98)) (l0_4 : List ByteArray) : Option (ByteArray) := if a0_0 = 1 then ((cachepotref3_Digits.f k (wrap64 (a0_1))).bind fun t159 => (if 7 + t159.size ≤ 9223372036854775807 then (cachepotref3_Line.l0 k ((⟨#[99, 111, 109, 109, 105, 116, 32]⟩ : ByteArray) ++ t159) 0 a0_0 a0_1 l0_2 l0_3 l0_4) else (none))) else (if a0_0 = 2 then (cachepotref3_Line.l1 k (⟨#[103, 111, 116]⟩ : ByteArray) 0 a0_0 a0_1 l0_2 l0_3 l0_4) else (if a0_0 = 3 then (cachepotref3_Line.l2 k (⟨#[102, 111, 114, 103, 111, 116]⟩ : ByteArray) 0 a0_0 a0_1 l0_2 l0_3 l0_4) else (some (⟨#[]⟩ : ByteArray))))
end Go.Proofs.YtfaelejeihmgcaaDoor.Lgx
end

section
namespace Go.Proofs.YtfaelejeihmgcaaDoor.Lgx
open Go.RowKit Go.Proofs.YtfaelejeihmgcaaDoorW.PrintWords Go.Proofs.YtfaelejeihmgcaaDoorW.PrintLast
def nameAt (i : Int) : ByteArray := ⟨(namesL.getD i.toNat []).toArray⟩
def cachepothand_Key.f (a0 : Int) : Option ByteArray := (cachepotbook_Pick.f a0 12).bind fun i => some (nameAt i)
theorem pick_ok (n m r : Int) (h0 : 0 < m) (h1 : m ≤ 9223372036854775807) (h : cachepotbook_Pick.f n m = some r) : 0 ≤ r ∧ r < m := by
  unfold cachepotbook_Pick.f at h
  rw [if_neg (by omega)] at h
  have hb : Int.tmod n m < m ∧ -m < Int.tmod n m := ⟨Int.tmod_lt_of_pos n h0, Int.lt_tmod_of_pos n h0⟩
  split at h
  · obtain rfl := Option.some.inj h
    unfold wrap64
    omega
  · obtain rfl := Option.some.inj h
    omega
set_option maxRecDepth 100000 in
theorem cachepothand_Key.calls (a0 : Int) (r : ByteArray) (w : World) (h : cachepothand_Key.f a0 = some r) (hT : Tabs w) :
    Calls Tryd.prog 50 #[.int .i64 a0] w fun e w' => e = .returned (.string r) ∧ Below w.heap.size w w' := by
  obtain ⟨i, hi, hr⟩ := Option.bind_eq_some_iff.1 h
  obtain rfl := Option.some.inj hr
  obtain ⟨h0, h1⟩ := pick_ok a0 12 i (by decide) (by decide) hi
  obtain ⟨k, rfl⟩ : ∃ k : Nat, i = k := ⟨i.toNat, by omega⟩
  have hk : k < 12 := by omega
  have hal : Tryd.prog.arrayLen 129 = 12 := by kernel_rfl
  have hc : ∀ n, (w.drewN n).cell? ⟨1, k, none⟩ = some (.string (nameAt k)) := fun n => by
    rw [World.cell?_drewN, World.var?_cell (g := 1) (by kernel_rfl) hT.n k]
    have hl : k < namesL.length := hk
    simp only [List.getElem?_toArray, List.getElem?_map, nameAt, Int.toNat_natCast, List.getD_eq_getElem?_getD, List.getElem?_eq_getElem hl, Option.map_some, Option.getD_some]
  have hi2 := Aside0.mk hi
  clear h hi hr
  go_enter Tryd.func50, Tryd.ntmps50
  go_wp2_with fail
  refine (cachepotbook_Pick.calls a0 12 k w hi2.out).mono ?_
  rintro e w' ⟨rfl, ⟨n, rfl⟩⟩
  have hc2 := hc n
  go_wp2
  go_ret
  exact ⟨rfl, pw_below_drewN (Below.refl _ _) n⟩
end Go.Proofs.YtfaelejeihmgcaaDoor.Lgx
end

section
namespace Go.Proofs.YtfaelejeihmgcaaDoor.Lgx
open Go.RowKit Go.Proofs.YtfaelejeihmgcaaDoorW.PrintWords Go.Proofs.YtfaelejeihmgcaaDoorW.PrintLast
def neA (x y : S98) : Bool := !(x.f0.toList == y.f0.toList) || (!(x.f1 == y.f1) || (!(x.f2.toList == y.f2.toList) || (!(x.f3 == y.f3))))
def sameA : List S98 → List S98 → Bool
  | [], [] => true
  | x :: l, y :: l' => !neA x y && sameA l l'
  | _, _ => false
theorem rd98 {l : List S98} {k : Nat} (h : k < l.length) : rd_T98 l (k : Int) = l[k] := by
  unfold rd_T98
  rw [List.getD_eq_getElem?_getD, Int.toNat_natCast, List.getElem?_eq_getElem h]
  rfl
theorem w64 (x : Int) (h0 : 0 ≤ x) (h1 : x ≤ 9223372036854775807) : wrap64 x = x := by unfold wrap64; omega
theorem sameA_len : ∀ (l l' : List S98), sameA l l' = true → l.length = l'.length
  | [], [], _ => rfl
  | x :: l, y :: l', h => by
    simp only [sameA, Bool.and_eq_true] at h
    simp [sameA_len l l' h.2]
  | [], y :: l', h => by simp [sameA] at h
  | x :: l, [], h => by simp [sameA] at h
theorem sameA_ne (l l' : List S98) (h : ¬ l.length = l'.length) : sameA l l' = false := by
  cases hs : sameA l l'
  · rfl
  · exact absurd (sameA_len l l' hs) h
theorem api_l0 (x y : List S98) (hlen : x.length = y.length) (hb : x.length ≤ 9223372036854775806) : ∀ (d k j : Nat), x.length - j = d → j ≤ x.length → d < k → api_Answer.l0 k x y (x.length : Int) (j : Int) = some (sameA (x.drop j) (y.drop j)) := by
  intro d
  induction d with
  | zero =>
    intro k j hd hj hk
    obtain ⟨k, rfl⟩ : ∃ m, k = m + 1 := ⟨k - 1, by omega⟩
    rw [List.drop_eq_nil_of_le (by omega), List.drop_eq_nil_of_le (by omega)]
    simp only [api_Answer.l0]
    rw [if_neg (by omega)]
    rfl
  | succ d ih =>
    intro k j hd hj hk
    obtain ⟨k, rfl⟩ : ∃ m, k = m + 1 := ⟨k - 1, by omega⟩
    have h1 : j < x.length := by omega
    have h2 : j < y.length := by omega
    have hi := ih k (j + 1) (by omega) (by omega) (by omega)
    rw [List.drop_eq_getElem_cons h1, List.drop_eq_getElem_cons h2]
    simp only [api_Answer.l0]
    rw [if_pos (by omega), if_pos (by omega), if_pos (by omega), if_pos (by omega), rd98 h1, rd98 h2, w64 _ (by omega) (by omega)]
    show (if neA x[j] y[j] = true then some false else _) = _
    simp only [sameA]
    cases neA x[j] y[j]
    · rw [if_neg (by decide)]
      exact hi
    · rw [if_pos rfl]
      rfl
theorem api_f (x y : List S98) (hb : x.length ≤ 9223372036854775806) (k : Nat) (hk : x.length < k) : api_Answer.f k x y = some (sameA x y) := by
  unfold api_Answer.f
  by_cases h : x.length = y.length
  · rw [if_pos (by omega)]
    exact api_l0 x y h hb x.length k 0 (by omega) (by omega) hk
  · rw [if_neg (by omega), sameA_ne x y h]
end Go.Proofs.YtfaelejeihmgcaaDoor.Lgx
end

section
namespace Go.Proofs.YtfaelejeihmgcaaDoor.Lgx
open Go.RowKit Go.Proofs.YtfaelejeihmgcaaDoorW.PrintWords Go.Proofs.YtfaelejeihmgcaaDoorW.PrintLast
def withoutF (key : ByteArray) (L : List S98) : List S98 := L.filter fun x => !(x.f0.toList == key.toList)
theorem rdstr2 {l : List ByteArray} {k : Nat} (h : k < l.length) : rdOf ByteArray.empty l (k : Int) = l[k] := by
  unfold rdOf
  rw [List.getD_eq_getElem?_getD, Int.toNat_natCast, List.getElem?_eq_getElem h]
  rfl
set_option maxHeartbeats 4000000 in
set_option maxRecDepth 100000 in
theorem ref_without (b : Nat) (A : Option Addr) (c : Nat) (L : List S98) (key : ByteArray) (w : World) (hc : w.cell? ⟨b, 0, none⟩ = some (.slice A L.length c)) (hC : Kd.C k98 w A L.length L) (hL : L.length ≤ 1048576) :
    Calls Tryd.prog 99 #[.pointer (some ⟨b, 0, none⟩), .string key] w fun e w' => ∃ v : Value, e = .returned v ∧ Kd.R k98 98 w' w.heap.size (fun _ => True) v (withoutF key L) ∧ Below w.heap.size w w' := by
  have hblt := World.block_lt_of_cell? w _ hc
  simp only at hblt
  go_enter Tryd.func99, Tryd.ntmps99
  go_wp2
  go_loopw [5, 6] (fun v i wr => ∃ k : Nat, k ≤ L.length ∧ i = .int .i64 k ∧ Kd.R k98 98 wr w.heap.size (fun _ => True) v (withoutF key (L.take k)) ∧ Below w.heap.size w wr) (fun _ i _ => L.length - (intOf i).toNat)
  case atStart => exact ⟨0, Nat.zero_le _, rfl, Kd.R_nil _ _ _ _ _, Below.refl _ _⟩
  case round =>
    obtain ⟨k, hkl, rfl, hR, hb⟩ := hrel
    have hc1 := (hb.cell (p := ⟨b, 0, none⟩) hblt).trans hc
    by_cases hlt : k < L.length
    · obtain ⟨ad, e, y0, y1, y2, y3⟩ := at_T98 (Kd.C_below hC hb) k (by omega) (by omega)
      cases e
      rw [rd98 hlt] at y0 y1 y2 y3
      have hlen : (withoutF key (L.take k)).length ≤ 1048576 := by
        have h1 := List.length_filter_le (fun x : S98 => !(x.f0.toList == key.toList)) (L.take k)
        have h2 := List.length_take_le k L
        unfold withoutF
        omega
      have hsn : withoutF key (L.take (k + 1)) = withoutF key (L.take k) ++ withoutF key [L[k]] := by
        rw [List.take_succ_eq_append_getElem hlt, withoutF, List.filter_append]
        rfl
      obtain ⟨x, hx⟩ : ∃ x, x = L[k] := ⟨_, rfl⟩
      rw [← hx] at y0 y1 y2 y3 hsn
      simp only [Int.toNat_natCast] at y0 y1 y2 y3
      clear hx
      obtain ⟨xk, xi, xv, xf⟩ := x
      by_cases hs : xk.toList = key.toList
      · have c1 : (xk.toList == key.toList) = true := beq_iff_eq.mpr hs
        have c2 : (xk.toList != key.toList) = false := bne_eq_false_iff_eq.mpr hs
        have e0 : withoutF key [⟨xk, xi, xv, xf⟩] = [] := by simp [withoutF, hs]
        rw [e0, List.append_nil] at hsn
        have Hsn := Lib.hid hsn
        clear hs hsn e0
        go_wp2
        go_roundw
        case rel => exact ⟨k + 1, hlt, by simp, by rw [Hsn.out]; exact hR, hb⟩
        case measure => simp [intOf]; omega
      · have c1 : (xk.toList == key.toList) = false := beq_eq_false_iff_ne.mpr hs
        have c2 : (xk.toList != key.toList) = true := bne_iff_ne.mpr hs
        have e0 : withoutF key [⟨xk, xi, xv, xf⟩] = [⟨xk, xi, xv, xf⟩] := by simp [withoutF, hs]
        rw [e0] at hsn
        have Hsn := Lib.hid hsn
        clear hs hsn e0
        go_wp2_with (at_builtin; refine Kd.R_append k98 (w0 := w) w.heap.size rfl (.tmp 26) (.tmp 34) 41 98 (.agg #[(.string ⟨#[]⟩), (.bool false), (.string ⟨#[]⟩), (.int .u32 0)]) 48 rfl Tryd.underlying41 info98 rfl (by decide) (by omega) u5 (withoutF key (L.take k)) ⟨xk, xi, xv, xf⟩ [.string xk, .bool xi, .string xv, .int .u32 xf] (fun _ => True) (fun _ => False) rfl (by first | (go_simp; done) | (go_simp; rfl)) (k98_mkM _ _ _ ⟨xk, xi, xv, xf⟩) (fun _ hk => hk.elim) (fun _ _ => trivial) hR hb hb.size ?aL ?_)
        case aL => omega
        intro v1 w1 hR1 hb1 _ _
        rw [← Hsn.out] at hR1
        clear hR
        go_wp2
        go_roundw
        case rel => exact ⟨k + 1, hlt, by simp, hR1, hb1⟩
        case measure => simp [intOf]; omega
    · have hke : k = L.length := by omega
      subst hke
      rw [List.take_length] at hR
      go_wp2
      go_ret
      exact ⟨_, rfl, hR, hb⟩
/-- A pointer to the reference's Map in block b, whose row is v. -/
structure RefIs (w : World) (B b : Nat) (v : Value) (L : List S98) : Prop where
  cell : w.heap[b]? = some (.cells #[v] 104 (0, 0))
  row : Kd.R k98 98 w B (fun k => k ≠ b) v L
  hB : B ≤ b
theorem RefIs.lt {w : World} {B b : Nat} {v : Value} {L : List S98} (h : RefIs w B b v L) : b < w.heap.size := (Array.getElem?_eq_some_iff.1 h.cell).1
theorem RefIs.cell0 {w : World} {B b : Nat} {v : Value} {L : List S98} (h : RefIs w B b v L) : w.cell? ⟨b, 0, none⟩ = some v := by
  simp [World.cell?, h.cell]
theorem RefIs.free {w : World} {B b : Nat} {v : Value} {L : List S98} (h : RefIs w B b v L) : w.frozen? ⟨b, 0, none⟩ = false := Lib.frozen_of_heap h.cell 0
theorem RefIs.below {w w' : World} {B b : Nat} {v : Value} {L : List S98} (h : RefIs w B b v L) (hb : Below w.heap.size w w') : RefIs w' B b v L :=
  ⟨(hb.block b h.lt).trans h.cell, Kd.R_below h.row hb, h.hB⟩
/-- another row is stored into the field -/
theorem RefIs.put {w w1 : World} {B b : Nat} {v v1 : Value} {L L1 : List S98} (h : RefIs w B b v L) (hb : Below w.heap.size w w1) (hr : Kd.R k98 98 w1 w.heap.size (fun _ => True) v1 L1) : RefIs (w1.setCell ⟨b, 0, none⟩ v1) B b v1 L1 := by
  have hlt := h.lt
  refine ⟨?_, ?_, h.hB⟩
  · have e := (hb.block b hlt).trans h.cell
    simp [World.setCell, Array.getElem?_modify, e]
  · have h1 : Kd.R k98 98 w1 w.heap.size (fun k => k ≠ b) v1 L1 := Kd.R_mono (Kd.R_bound hr) (fun k hk => by have := hk.2.1; omega)
    exact Kd.R_lower (Kd.R_far h1 (fun k hk => hk) v1) (Nat.le_trans h.hB (Nat.le_of_lt hlt))
theorem grown_put {w w1 : World} {b : Nat} (hb : Below w.heap.size w w1) (v : Value) : w.grownBy (w1.setCell ⟨b, 0, none⟩ v) (some b) :=
  ⟨hb.os, hb.tape, hb.output, by simpa [World.setCell] using hb.size, fun i hi hne => by
    rw [Below.heap_setCell _ _ _ _ (fun e => hne (by rw [e]))]
    exact hb.block i hi⟩
def forgetF : List ByteArray → List S98 → List S98
  | [], L => L
  | k :: l, L => forgetF l (withoutF k L)
theorem forgetF_snoc (l : List ByteArray) (x : ByteArray) : ∀ L, forgetF (l ++ [x]) L = withoutF x (forgetF l L) := by
  induction l with
  | nil => intro L; rfl
  | cons y l ih => intro L; exact ih _
theorem withoutF_len (k : ByteArray) (L : List S98) : (withoutF k L).length ≤ L.length := List.length_filter_le _ _
theorem forgetF_len (l : List ByteArray) : ∀ L : List S98, (forgetF l L).length ≤ L.length := by
  induction l with
  | nil => intro L; exact Nat.le_refl _
  | cons k l ih => intro L; exact Nat.le_trans (ih _) (withoutF_len k L)
set_option maxHeartbeats 4000000 in
set_option maxRecDepth 100000 in
theorem ref_Forget (B b : Nat) (v : Value) (L : List S98) (A : Option Addr) (c : Nat) (l : List ByteArray) (w : World) (h : RefIs w B b v L) (hr : ∀ W, w.grownBy W (some b) → Kd.C Kd.string W A l.length l)
    (hL : L.length ≤ 1048576) (hl : l.length ≤ 1048576) :
    Calls Tryd.prog 67 #[.pointer (some ⟨b, 0, none⟩), .slice A l.length c] w fun e w' => e = .returned (.tuple #[]) ∧ ∃ v', RefIs w' B b v' (forgetF l L) ∧ w.grownBy w' (some b) := by
  go_enter Tryd.func67, Tryd.ntmps67
  go_wp2
  go_loopw [4] (fun i wr => ∃ (k : Nat) (v1 : Value), k ≤ l.length ∧ i = .int .i64 k ∧ RefIs wr B b v1 (forgetF (l.take k) L) ∧ w.grownBy wr (some b)) (fun i _ => l.length - (intOf i).toNat)
  case atStart => exact ⟨0, v, Nat.zero_le _, rfl, h, World.grownBy.refl _ _⟩
  case round =>
    obtain ⟨k, v1, hkl, rfl, hI, hg⟩ := hrel
    by_cases hlt : k < l.length
    · obtain ⟨ad, e, c0⟩ := Kd.at_string (hr _ hg) k (by omega) (by omega)
      cases e
      rw [rdstr2 hlt] at c0
      have hsn := forgetF_snoc (l.take k) l[k] L
      rw [← List.take_succ_eq_append_getElem hlt] at hsn
      obtain ⟨x, hx⟩ : ∃ x, x = l[k] := ⟨_, rfl⟩
      rw [← hx] at c0 hsn
      have Hsn := Lib.hid hsn
      clear hsn hx
      simp only [Int.toNat_natCast] at c0
      have hlen := Nat.le_trans (forgetF_len (l.take k) L) hL
      have cb := hI.cell0
      obtain ⟨Av, cv, ev⟩ := Kd.R_slice hI.row
      subst ev
      have hCv := (Kd.R_reads' hI.row).2.2
      go_wp2_with fail
      refine (ref_without b Av cv _ x wr cb hCv hlen).mono ?_
      rintro e w2 ⟨v2, rfl, hR2, hb2⟩
      have hI2 := hI.put hb2 hR2
      have hg2 := hg.trans (grown_put (b := b) hb2 v2)
      have f2 := (hI.below hb2).free
      have cb2 := (hI.below hb2).cell0
      rw [← Hsn.out] at hI2
      obtain ⟨A2, c2, ev2⟩ := Kd.R_slice hR2
      subst ev2
      go_wp2
      go_roundw
      case rel => exact ⟨k + 1, _, hlt, by simp, hI2, hg2⟩
      case measure => simp [intOf]; omega
    · have hke : k = l.length := by omega
      subst hke
      rw [List.take_length] at hI
      go_wp2
      go_end0
      exact ⟨rfl, v1, hI, hg⟩
def lookStep (k : ByteArray) (a x : S98) : S98 := if x.f0.toList = k.toList then x else a
def lookF (L : List S98) (k : ByteArray) : S98 := L.foldl (lookStep k) ⟨k, false, ⟨#[]⟩, 0⟩
def refGetF (L : List S98) (l : List ByteArray) : List S98 := l.map (lookF L)
theorem lookF_snoc (L : List S98) (x : S98) (k : ByteArray) : lookF (L ++ [x]) k = lookStep k (lookF L k) x := by
  unfold lookF
  rw [List.foldl_append]
  rfl
def box98 (x : S98) : Obj := .cells #[.string x.f0, .bool x.f1, .string x.f2, .int .u32 x.f3] 98 (0, 0)
theorem box_put {W : World} {g : Nat} {a : S98} (h : W.heap[g]? = some (box98 a)) (y : S98) : ((((W.setCell ⟨g, 0, none⟩ (.string y.f0)).setCell ⟨g, 1, none⟩ (.bool y.f1)).setCell ⟨g, 2, none⟩ (.string y.f2)).setCell ⟨g, 3, none⟩ (.int .u32 y.f3)).heap[g]? = some (box98 y) := by
  simp [World.setCell, Array.getElem?_modify, h, box98]
theorem box_below {B : Nat} {w W : World} {g : Nat} (hb : Below B w W) (hg : B ≤ g) (y : S98) : Below B w ((((W.setCell ⟨g, 0, none⟩ (.string y.f0)).setCell ⟨g, 1, none⟩ (.bool y.f1)).setCell ⟨g, 2, none⟩ (.string y.f2)).setCell ⟨g, 3, none⟩ (.int .u32 y.f3)) :=
  ((((hb.setCell (p := ⟨g, 0, none⟩) hg _).setCell (p := ⟨g, 1, none⟩) hg _).setCell (p := ⟨g, 2, none⟩) hg _).setCell (p := ⟨g, 3, none⟩) hg _)
set_option maxHeartbeats 8000000 in
set_option maxRecDepth 100000 in
theorem ref_Get (b : Nat) (Av : Option Addr) (cv : Nat) (L : List S98) (A : Option Addr) (c : Nat) (l : List ByteArray) (w : World) (hc : w.cell? ⟨b, 0, none⟩ = some (.slice Av L.length cv)) (hC : Kd.C k98 w Av L.length L)
    (hr : Kd.C Kd.string w A l.length l) (hL : L.length ≤ 1048576) (hl : l.length ≤ 1048576) :
    Calls Tryd.prog 68 #[.pointer (some ⟨b, 0, none⟩), .slice A l.length c] w fun e w' => ∃ v' : Value, e = .returned v' ∧ Kd.R k98 98 w' w.heap.size (fun _ => True) v' (refGetF L l) ∧ Below w.heap.size w w' := by
  have hblt := World.block_lt_of_cell? w _ hc
  simp only at hblt
  go_enter Tryd.func68, Tryd.ntmps68
  go_wp2
  go_loopw [5, 6] (fun v1 i wr => ∃ k : Nat, k ≤ l.length ∧ i = .int .i64 k ∧ Kd.R k98 98 wr w.heap.size (fun _ => True) v1 (refGetF L (l.take k)) ∧ Below w.heap.size w wr) (fun _ i _ => l.length - (intOf i).toNat)
  case atStart => exact ⟨0, Nat.zero_le _, rfl, Kd.R_nil _ _ _ _ _, Below.refl _ _⟩
  case round =>
    obtain ⟨k, hkl, rfl, hR, hb⟩ := hrel
    by_cases hlt : k < l.length
    · obtain ⟨ad, e, c0⟩ := Kd.at_string hr k (by omega) (by omega)
      cases e
      rw [rdstr2 hlt] at c0
      have hsn : refGetF L (l.take (k + 1)) = refGetF L (l.take k) ++ [lookF L l[k]] := by
        rw [List.take_succ_eq_append_getElem hlt]
        simp only [refGetF, List.map_append, List.map_cons, List.map_nil]
      obtain ⟨x, hx⟩ : ∃ x, x = l[k] := ⟨_, rfl⟩
      rw [← hx] at c0 hsn
      have Hsn := Lib.hid hsn
      clear hsn hx
      simp only [Int.toNat_natCast] at c0
      have c0w := c0
      replace c0 := (hb.cell (World.block_lt_of_cell? w _ c0)).trans c0
      go_wp2
      obtain ⟨wo, rfl⟩ : ∃ wo : World, wo = wr := ⟨_, rfl⟩
      have hbk := heap_alloc_new wo (box98 ⟨x, false, ⟨#[]⟩, 0⟩)
      go_loopw [8] (fun i wi => ∃ j : Nat, j ≤ L.length ∧ i = .int .i64 j ∧ wi.heap[wo.heap.size]? = some (box98 (lookF (L.take j) x)) ∧ Below wo.heap.size wo wi) (fun i _ => L.length - (intOf i).toNat)
      case atStart => exact ⟨0, Nat.zero_le _, rfl, hbk, below_alloc (Below.refl _ _) _⟩
      case round =>
        clear hbk
        obtain ⟨j, hjl, rfl, hbk, hbi⟩ := hrel
        have hbm : Below w.heap.size w wr := below_then hb hb.size hbi
        have hc1 := (hbm.cell (p := ⟨b, 0, none⟩) hblt).trans hc
        replace c0 := (hbi.cell (World.block_lt_of_cell? wo _ c0)).trans c0
        obtain ⟨cur, hcur⟩ : ∃ cur, cur = lookF (L.take j) x := ⟨_, rfl⟩
        rw [← hcur] at hbk
        have Hcur := Lib.hid hcur
        clear hcur
        obtain ⟨ck, ci, cw, cf⟩ := cur
        have z0 : wr.cell? ⟨wo.heap.size, 0, none⟩ = some (.string ck) := Lib.cell_of_heap hbk 0
        have z1 : wr.cell? ⟨wo.heap.size, 1, none⟩ = some (.bool ci) := Lib.cell_of_heap hbk 1
        have z2 : wr.cell? ⟨wo.heap.size, 2, none⟩ = some (.string cw) := Lib.cell_of_heap hbk 2
        have z3 : wr.cell? ⟨wo.heap.size, 3, none⟩ = some (.int .u32 cf) := Lib.cell_of_heap hbk 3
        by_cases hlj : j < L.length
        · obtain ⟨adv, e, y0, y1, y2, y3⟩ := at_T98 (Kd.C_below hC hbm) j (by omega) (by omega)
          cases e
          rw [rd98 hlj] at y0 y1 y2 y3
          have hsj := lookF_snoc (L.take j) L[j] x
          rw [← List.take_succ_eq_append_getElem hlj] at hsj
          obtain ⟨y, hy⟩ : ∃ y, y = L[j] := ⟨_, rfl⟩
          rw [← hy] at y0 y1 y2 y3 hsj
          simp only [Int.toNat_natCast] at y0 y1 y2 y3
          clear hy
          obtain ⟨yk, yi, yv, yf⟩ := y
          by_cases hs : yk.toList = x.toList
          · have c1 : (yk.toList == x.toList) = true := beq_iff_eq.mpr hs
            have e0 : ∀ a, lookStep x a ⟨yk, yi, yv, yf⟩ = ⟨yk, yi, yv, yf⟩ := fun a => by rw [lookStep, if_pos hs]
            rw [e0] at hsj
            have Hsj := Lib.hid hsj
            clear hs hsj e0
            have fz0 : wr.frozen? ⟨wo.heap.size, 0, none⟩ = false := Lib.frozen_of_heap hbk 0
            have fz1 : wr.frozen? ⟨wo.heap.size, 1, none⟩ = false := Lib.frozen_of_heap hbk 1
            have fz2 : wr.frozen? ⟨wo.heap.size, 2, none⟩ = false := Lib.frozen_of_heap hbk 2
            have fz3 : wr.frozen? ⟨wo.heap.size, 3, none⟩ = false := Lib.frozen_of_heap hbk 3
            go_wp2
            go_quiet (fail)
            go_wp2
            go_roundw
            case rel => exact ⟨j + 1, hlj, by simp, by rw [Hsj.out]; exact box_put (W := wr.drewN _) hbk ⟨yk, yi, yv, yf⟩, box_below (pw_below_drewN hbi _) (Nat.le_refl _) ⟨yk, yi, yv, yf⟩⟩
            case measure => simp [intOf]; omega
          · have c1 : (yk.toList == x.toList) = false := beq_eq_false_iff_ne.mpr hs
            have e0 : ∀ a, lookStep x a ⟨yk, yi, yv, yf⟩ = a := fun a => by rw [lookStep, if_neg hs]
            rw [e0] at hsj
            have Hsj := Lib.hid hsj
            clear hs hsj e0
            go_wp2
            go_quiet (fail)
            go_wp2
            go_roundw
            case rel => exact ⟨j + 1, hlj, by simp, by rw [Hsj.out, ← Hcur.out]; exact hbk, pw_below_drewN hbi _⟩
            case measure => simp [intOf]; omega
        · have hje : j = L.length := by omega
          subst hje
          have hcl := Hcur.out
          rw [List.take_length] at hcl
          rw [← hcl] at Hsn
          clear hcl
          have hlen : (refGetF L (l.take k)).length ≤ 1048576 := by simp only [refGetF, List.length_map]; have := List.length_take_le k l; omega
          have hR3 := Kd.R_below hR hbi
          go_wp2_with (at_builtin; refine Kd.R_append k98 (w0 := w) w.heap.size rfl (.tmp 49) (.tmp 51) 41 98 (.agg #[(.string ⟨#[]⟩), (.bool false), (.string ⟨#[]⟩), (.int .u32 0)]) 48 rfl Tryd.underlying41 info98 rfl (by decide) (by omega) u5 (refGetF L (l.take k)) ⟨ck, ci, cw, cf⟩ [.string ck, .bool ci, .string cw, .int .u32 cf] (fun _ => True) (fun _ => False) rfl (by first | (go_simp; done) | (go_simp; rfl)) (k98_mkM _ _ _ ⟨ck, ci, cw, cf⟩) (fun _ hk => hk.elim) (fun _ _ => trivial) hR3 hbm hbm.size ?aL ?_)
          case aL => omega
          intro v1 w1 hR1 hb1 _ _
          rw [← Hsn.out] at hR1
          clear hR hR3
          go_wp2
          go_roundw
          case rel => exact ⟨k + 1, hlt, by simp, hR1, hb1⟩
          case measure => simp [intOf]; omega
    · have hke : k = l.length := by omega
      subst hke
      rw [List.take_length] at hR
      go_wp2
      go_ret
      exact ⟨_, rfl, hR, hb⟩
end Go.Proofs.YtfaelejeihmgcaaDoor.Lgx
end
