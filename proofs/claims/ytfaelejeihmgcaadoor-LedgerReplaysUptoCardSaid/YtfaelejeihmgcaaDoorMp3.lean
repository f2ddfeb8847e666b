/-
  Texts of mine, and texts that print.sh and pp.py wrote, merged and cut to what is used: Lg14, Lg15, HandV, Lg10, HandZ, HandW, PureT, PureS
-/
import Derived.Test.YtfaelejeihmgcaaDoorProg
import Derived.Below
import Derived.Lib.ItoaMem
import Derived.Lib.LaidTab
import Derived.Deep.Draws
import Derived.Deep.AppendLies
import Derived.Maps.AppendAt
import Derived.OwnWalk
import Derived.Laws.BytesArg
import Derived.Laws.MakeOwn
import Derived.Laws.OwnMore
import Derived.Deep.OwnRows
import Derived.Tactics
import Derived.Lib.ConvBytes
import Derived.Laws.Slices
import Derived.WalkKit
import Derived.KernelRfl
import Derived.RowKit3
import Derived.Deep.LoopGhost
import Derived.Deep.QuietTactic
import Derived.BigQuiet
import Derived.WideLaws
import Derived.Deep.DeepCutAuto
import Derived.Deep.CutBlock
import Derived.Deep.RegionHeld3
import Derived.Laws.Rows
import Derived.Lib.AppendStr
import Derived.ArgAppend
import Derived.Laws.IdiomCopy
import Derived.RowKit
import Derived.Test.YtfaelejeihmgcaaDoorRows
import Derived.ChangeArms
import Derived.DataReads
import Derived.DataElems
import Derived.OrdersHeld
import Derived.Laws.BitsLemmas
import Derived.Laws.StructEq
import Derived.Test.YtfaelejeihmgcaaDoorCards
import Derived.Test.YtfaelejeihmgcaaDoorTie
import Derived.Lib.LaidU8
import Derived.LaidMore
import Derived.Lay
import Derived.ProofKit
import Derived.OpenShut
import Derived.SevenTiedAt
import Derived.Stop.Joined
import Derived.Deep.DeepHandedRow
import Derived.SliceStrings
import Derived.Carry
import Derived.FnData
import Derived.Outline
import Derived.Tactics2
import Derived.StillTailTactics
import Derived.StillTactics
import Derived.Lib.Builder
import Derived.Lib.Hide
import Derived.IntWalk
import Derived.WalkSpells
import Derived.Lib.DecodeNEq
import Derived.Deep.MidRow
import Derived.Maps.OwnSet
import Derived.Shelf.Strconv.Itoa0
import Derived.Shelf.Strconv.Itoa1
import Derived.Shelf.LaysM
import Derived.Shelf.Strconv.Itoa2
import Derived.Lib.Strings
import Derived.Lib.Slices
import Derived.Lib.Walk
import Derived.Lib.UnsafeStr
import Derived.Shelf.Strings.Builder1
import Derived.Shelf.Strings.OnBuilder
import Derived.Shelf.Unicode.DecodeSlow
import Derived.Shelf.Unicode.DecodeAny
import Derived.Laws.Externs
import Derived.Laws.Pointers
import Derived.Lib.AppendIntMem
import Derived.BigCall
import Derived.BigGuard
import Derived.Test.YtfaelejeihmgcaaDoorMp0
import Derived.Test.YtfaelejeihmgcaaDoorMp1
import Derived.Test.YtfaelejeihmgcaaDoorMp2

section
namespace Go.Proofs.YtfaelejeihmgcaaDoor.Lgx
open Go.RowKit Go.Proofs.YtfaelejeihmgcaaDoorW.PrintWords Go.Proofs.YtfaelejeihmgcaaDoorW.PrintLast Go.Proofs.YtfaelejeihmgcaaDoorW.PrintMore
attribute [local go_sem] max2_int min2_int max_two min_two max_three min_three max_four min_four   -- for this text's walks alone
set_option linter.unusedVariables false
set_option linter.unusedSimpArgs false
def cachepotref1_BatchMake.l0 : Nat → List (S101) → List ByteArray → List (S101) → Int → Option ((List (S101)))
  | 0, _, _, _, _ => none
  | k + 1, x0, x3, x4, x5 => if x5 < (x3.length : Int) then (if 0 ≤ x5 then ((cachepotref1_BatchFind.f k x0 (rdOf ByteArray.empty x3 x5)).bind fun bt326 => (if bt326.2.1 = true then (if x4.length < 3518437208883 then (cachepotref1_BatchMake.l0 k x0 x3 (x4 ++ [(⟨bt326.1, bt326.2.1, (⟨#[]⟩ : ByteArray)⟩ : S101)]) (wrap64 (x5 + 1))) else (none)) else (if x4.length < 3518437208883 then (cachepotref1_BatchMake.l0 k x0 x3 (x4 ++ [(⟨bt326.1, bt326.2.1, bt326.2.2.1⟩ : S101)]) (wrap64 (x5 + 1))) else (none)))) else (none)) else (some x4)
def cachepotref1_BatchMake.f (k : Nat) (l0 : List (S101)) : Option ((List (S101))) := (cachepotref1_BatchKeys.f k l0).bind fun t322 => (cachepotref1_BatchMake.l0 k l0 t322 ([] : List (S101)) 0)
set_option maxHeartbeats 8000000 in
set_option maxRecDepth 100000 in
theorem cachepotref1_BatchMake.calls (k : Nat) (A0 : Option Addr) (c0 : Nat) (l0 : List (S101)) (r : List (S101)) (w : World) (hr0 : Kd.C k101 w A0 l0.length l0) (hc0 : l0.length ≤ c0) (h : cachepotref1_BatchMake.f k l0 = some r) :
    Calls Tryd.prog 101 #[.slice A0 l0.length c0] w fun e w' => ∃ v0_ : Value, e = .returned (v0_) ∧ Kd.R k101 101 w' w.heap.size (fun _ => True) v0_ r ∧ Below w.heap.size w w' := by
  have hu101 := Tryd.underlying101
  have HR0 := Aside0.mk hr0
  have HC0 := Aside0.mk hc0
  clear hr0 hc0
  have HB := Aside0.mk (Below.refl w.heap.size w)
  have H : ((cachepotref1_BatchKeys.f k l0).bind fun t322 => (cachepotref1_BatchMake.l0 k l0 t322 ([] : List (S101)) 0)) = some r := h
  clear h
  replace H := Option.bind_eq_some_iff.mp H
  obtain ⟨t322, A20, H⟩ := H
  replace H : (cachepotref1_BatchMake.l0 k l0 t322 ([] : List (S101)) 0) = some r := H
  have A2 := Aside0.mk A20
  clear A20
  have H' := Aside0.mk H
  clear H
  go_enter Tryd.func101, Tryd.ntmps101
  go_wp2_with (first | ((with_reducible refine gate_callee (f := 120) rfl ?_); refine goesL_ (some 9) rfl rfl Tryd.func120 (by kernel_rfl) rfl #[.slice A0 l0.length c0] rfl (by (try simp only [List.map_toArray, List.map_cons, List.map_nil]); first | done | rfl | (simp only [List.length_drop, List.length_take]; rfl)) ?_; (with_reducible refine (cachepotref1_BatchKeys.calls k _ _ l0 t322 _ ?side1 ?side2 A2.out).mono ?_); (case side1 => repeat (first | exact HR0.out | (with_reducible refine Kd.C_alloc ?_ _) | (with_reducible refine Kd.C_drewN ?_ _) | (with_reducible refine Kd.C_drew ?_))); (case side2 => exact HC0.out); rintro e w3 ⟨v323, rfl, ho0, hb⟩; refine ⟨_, rfl, ?_⟩; have n0_ := Aside0.mk (Kd.R_lower ho0 (below_size (by repeat (first | (with_reducible first | exact HB.out | apply below_alloc | apply pw_below_drewN | apply below_drew1) | exact HB.out)))); have n1_ := Aside0.mk (below_step (by repeat (first | (with_reducible first | exact HB.out | apply below_alloc | apply pw_below_drewN | apply below_drew1) | exact HB.out)) hb); clear HB; have HO324 := n0_; have HB := n1_; clear n0_ n1_; (try clear hb); (try clear hb2); (try clear hk); (try clear hi); (try clear ho0)))
  go_loopg [4, 5] k (fun kq v4 v5 w' => ∃ (x4_1 : List (S101)) (x5_1 : Int), v5 = .int .i64 x5_1 ∧ Aside0 (cachepotref1_BatchMake.l0 kq l0 t322 x4_1 x5_1 = some r) ∧ Aside0 (kq ≤ k) ∧ Aside0 (Kd.R Kd.string 9 w' w.heap.size (fun _ => True) v323 t322) ∧ Aside0 (Kd.R k101 101 w' w.heap.size (fun _ => True) v4 x4_1) ∧ Aside0 (Below w.heap.size w w'))
  case atStart => exact ⟨(([] : List (S101))), (0), (by first | rfl | (simp; done) | (simp [*]; done)), H', ⟨Nat.le_refl _⟩, ⟨by (with_reducible repeat (first | apply Kd.R_alloc | apply Kd.R_drewN | apply Kd.R_drew)); exact HO324.out⟩, ⟨by first | exact Kd.R_nil _ _ _ _ _ | exact Kd.N_nil _ _ _ _ _ | exact Kd.V_nil _ _ _ _ _ | exact Kd.Q_nil _ _ _ _ _ | exact Kd.S_nil _ _ _ _ _⟩, ⟨by repeat (first | (with_reducible first | exact HB.out | apply below_alloc | apply pw_below_drewN | apply below_drew1) | exact HB.out)⟩⟩
  case round =>
    clear H'
    try clear c1
    try clear p2
    obtain ⟨x4_1, x5_1, rfl, HA, HK1, HO_3, HO_4, HB⟩ := hrel
    cases gk with
    | zero => exact absurd HA.out (by simp [cachepotref1_BatchMake.l0])
    | succ k1 =>
      have H := HA.out
      clear HA
      simp only [cachepotref1_BatchMake.l0] at H
      by_cases c4 : x5_1 < (t322.length : Int)
      · rw [if_pos c4] at H
        have c4b0 : decide (x5_1 < (t322.length : Int)) = true := decide_eq_true c4
        clear c4
        by_cases c5 : 0 ≤ x5_1
        · rw [if_pos c5] at H
          have c5b0 : decide (0 ≤ x5_1) = true := decide_eq_true c5
          clear c5
          replace H := Option.bind_eq_some_iff.mp H
          obtain ⟨⟨t326, t327, t328, t329⟩, A60, H⟩ := H
          replace H : (if t327 = true then (if x4_1.length < 3518437208883 then (cachepotref1_BatchMake.l0 k1 l0 t322 (x4_1 ++ [(⟨t326, t327, (⟨#[]⟩ : ByteArray)⟩ : S101)]) (wrap64 (x5_1 + 1))) else (none)) else (if x4_1.length < 3518437208883 then (cachepotref1_BatchMake.l0 k1 l0 t322 (x4_1 ++ [(⟨t326, t327, t328⟩ : S101)]) (wrap64 (x5_1 + 1))) else (none))) = some r := H
          have A6 := Aside0.mk A60
          clear A60
          by_cases c7 : t327 = true
          · subst c7
            have H1 : (if x4_1.length < 3518437208883 then (cachepotref1_BatchMake.l0 k1 l0 t322 (x4_1 ++ [(⟨t326, true, (⟨#[]⟩ : ByteArray)⟩ : S101)]) (wrap64 (x5_1 + 1))) else (none)) = some r := by rw [if_pos rfl] at H; exact H
            clear H
            have H := H1
            clear H1
            by_cases c8 : x4_1.length < 3518437208883
            · rw [if_pos c8] at H
              have LMc8 := Aside0.mk c8
              clear c8
              obtain ⟨y331, hy331⟩ : ∃ y_ : List (S101), y_ = (x4_1 ++ [(⟨t326, true, (⟨#[]⟩ : ByteArray)⟩ : S101)]) := ⟨_, rfl⟩
              replace H : (cachepotref1_BatchMake.l0 k1 l0 t322 y331 (wrap64 (x5_1 + 1))) = some r := by first | (rw [hy331]; with_reducible exact H) | (have H2_ := (Option.bind_some _ _).symm.trans H; rw [hy331]; with_reducible exact H2_) | (have H2_ := (Option.bind_some _ _).symm.trans H; with_reducible exact H2_) | with_reducible exact H | (rw [hy331]; exact H) | exact H
              have Ny331 := Aside0.mk hy331
              clear hy331
              have H' := Aside0.mk H
              clear H
              obtain ⟨Ao9, co9, eo9⟩ := Kd.R_slice HO_3.out
              subst eo9
              have p325 : 0 ≤ (x5_1 : Int) := of_decide_eq_true (by first | (with_reducible assumption) | assumption)
              have q325 : x5_1 < (t322.length : Int) := of_decide_eq_true (by first | (with_reducible assumption) | assumption)
              obtain ⟨ad325, e325, hx325_0⟩ := Kd.at_string (Kd.R_reads' HO_3.out).2.2 x5_1 p325 q325
              cases e325
              replace p325 := eq_true p325
              replace q325 := eq_true q325
              go_wp2_with (first | ((with_reducible refine gate_callee (f := 107) rfl ?_); refine goesL_ (some 22) rfl rfl Tryd.func107 (by kernel_rfl) rfl #[.slice A0 l0.length c0, .string (rdOf ByteArray.empty t322 x5_1)] rfl (by (try simp only [List.map_toArray, List.map_cons, List.map_nil]); first | done | rfl | (simp only [List.length_drop, List.length_take]; rfl)) ?_; (with_reducible refine (cachepotref1_BatchFind.calls k1 _ _ l0 (rdOf ByteArray.empty t322 x5_1) t326 true t328 t329 _ ?side1 ?side2 A6.out).mono ?_); (case side1 => repeat (first | exact (Kd.C_below HR0.out HB.out) | (with_reducible refine Kd.C_alloc ?_ _) | (with_reducible refine Kd.C_drewN ?_ _) | (with_reducible refine Kd.C_drew ?_))); (case side2 => exact HC0.out); rintro e w10 ⟨rfl, hb⟩; refine ⟨_, rfl, ?_⟩; have n0_ := Aside0.mk (Kd.R_below (by (with_reducible repeat (first | apply Kd.R_alloc | apply Kd.R_drewN | apply Kd.R_drew)); exact HO_3.out) hb); have n1_ := Aside0.mk (Kd.R_below (by (with_reducible repeat (first | apply Kd.R_alloc | apply Kd.R_drewN | apply Kd.R_drew)); exact HO_4.out) hb); have n2_ := Aside0.mk (below_step (by repeat (first | (with_reducible first | exact HB.out | apply below_alloc | apply pw_below_drewN | apply below_drew1) | exact HB.out)) hb); clear HO_3; clear HO_4; clear HB; have HO_3 := n0_; have HO_4 := n1_; have HB := n2_; clear n0_ n1_ n2_; (try clear hb); (try clear hb2); (try clear hk); (try clear hi)) | ((with_reducible refine gate_dst (N := 6) rfl ?_); refine box_event ?hg (N := 6) ?hd (cs := #[.string (⟨#[]⟩ : ByteArray), .bool false, .string (⟨#[]⟩ : ByteArray)]) (t := 101) ?hr ?_; (case hd => rfl); (case hg => rfl); (case hr => first | (go_simp; done) | (go_simp; rfl)); intro gb330 hg w11 hbox hb; have n0_ := Aside0.mk (Kd.R_below (by (with_reducible repeat (first | apply Kd.R_alloc | apply Kd.R_drewN | apply Kd.R_drew)); exact HO_3.out) hb); have n1_ := Aside0.mk (Kd.R_below (Kd.R_elderB (by (with_reducible repeat (first | apply Kd.R_alloc | apply Kd.R_drewN | apply Kd.R_drew)); exact HO_4.out) gb330 (Nat.le_of_eq hg.symm)) hb); have n2_ := Aside0.mk (below_step (by repeat (first | (with_reducible first | exact HB.out | apply below_alloc | apply pw_below_drewN | apply below_drew1) | exact HB.out)) hb); have n3_ := Aside0.mk (hbox); have n4_ := Aside0.mk ((by rw [hg]; exact (below_size (by repeat (first | (with_reducible first | exact HB.out | apply below_alloc | apply pw_below_drewN | apply below_drew1) | exact HB.out))) : w.heap.size ≤ gb330)); have n5_ := Aside0.mk ((by rw [hg]; exact (below_size (by repeat (first | (with_reducible first | exact HB.out | apply below_alloc | apply pw_below_drewN | apply below_drew1) | exact HB.out))) : w.heap.size ≤ gb330)); clear HO_3; clear HO_4; clear HB; have HO_3 := n0_; have HO_4 := n1_; have HB := n2_; have BK330 := n3_; have GW330 := n4_; have GE330 := n5_; clear n0_ n1_ n2_ n3_ n4_ n5_; clear hb hbox hg; have hcz12_0 : w11.cell? ⟨gb330, 0, none⟩ = some (.string (⟨#[]⟩ : ByteArray)) := (blk_cell BK330.out 0).trans rfl; have hcz12_1 : w11.cell? ⟨gb330, 1, none⟩ = some (.bool false) := (blk_cell BK330.out 1).trans rfl; have hcz12_2 : w11.cell? ⟨gb330, 2, none⟩ = some (.string (⟨#[]⟩ : ByteArray)) := (blk_cell BK330.out 2).trans rfl; have hfz12_0 := blk_frozen BK330.out 0; have hfz12_1 := blk_frozen BK330.out 1; have hfz12_2 := blk_frozen BK330.out 2; have hdc12_2 : ((((w11.setCell ⟨gb330, 0, none⟩ (.string t326)).setCell ⟨gb330, 1, none⟩ (.bool true)).setCell ⟨gb330, 2, none⟩ (.string t328)).setCell ⟨gb330, 2, none⟩ (.string (⟨#[]⟩ : ByteArray))).cell? ⟨gb330, 2, none⟩ = some (.string (⟨#[]⟩ : ByteArray)) := by simp [World.cell?, World.setCell, Array.getElem?_modify, BK330.out]) | ((with_reducible refine gate_builtin (b := .append) (xs := #[.tmp 28, .tmp 30]) rfl ?_); at_builtin; refine Kd.R_append k101 (w0 := w) w.heap.size rfl (.tmp 28) (.tmp 30) 40 101 (.agg #[(.string ⟨#[]⟩), (.bool false), (.string ⟨#[]⟩)]) 40 rfl Tryd.underlying40 info101 rfl (by decide) (by omega) u4 x4_1 (⟨t326, true, (⟨#[]⟩ : ByteArray)⟩ : S101) [.string t326, .bool true, .string (⟨#[]⟩ : ByteArray)] (fun k_ => k_ ≠ gb330) (fun _ => False) rfl (by first | (go_simp; done) | (go_simp; rfl)) ?aP (fun _ hk => hk.elim) ?aF ?aO ?aB ?aS ?aL ?_; (case aP => exact k101_mkM _ _ _ (⟨t326, true, (⟨#[]⟩ : ByteArray)⟩ : S101)); (case aB => exact (by repeat (first | (with_reducible first | exact HB.out | apply below_alloc | apply pw_below_drewN | apply below_drew1 | refine below_set ?_ GE330.out) | exact HB.out))); (case aF => exact (fun k_ hk => Kd.freshB (g := gb330) (o := .cells #[.string t326, .bool true, .string (⟨#[]⟩ : ByteArray)] 101 (0, 0)) (by (with_reducible repeat (first | refine blk_drewN ?_ _ | refine blk_drew ?_ | refine blk_alloc ?_ _)); refine blk_put (cs := #[.string t326, .bool true, .string t328]) ?_ 2 _ rfl; (with_reducible repeat (first | refine blk_drewN ?_ _ | refine blk_drew ?_ | refine blk_alloc ?_ _)); refine blk_put (cs := #[.string t326, .bool true, .string (⟨#[]⟩ : ByteArray)]) ?_ 2 _ rfl; (with_reducible repeat (first | refine blk_drewN ?_ _ | refine blk_drew ?_ | refine blk_alloc ?_ _)); refine blk_put (cs := #[.string t326, .bool false, .string (⟨#[]⟩ : ByteArray)]) ?_ 1 _ rfl; (with_reducible repeat (first | refine blk_drewN ?_ _ | refine blk_drew ?_ | refine blk_alloc ?_ _)); refine blk_put (cs := #[.string (⟨#[]⟩ : ByteArray), .bool false, .string (⟨#[]⟩ : ByteArray)]) ?_ 0 _ rfl; (with_reducible repeat (first | refine blk_drewN ?_ _ | refine blk_drew ?_ | refine blk_alloc ?_ _)); exact BK330.out) k_ hk)); (case aO => exact (by (with_reducible repeat (first | apply Kd.R_alloc | apply Kd.R_drewN | apply Kd.R_drew)); exact Kd.R_mono (Kd.R_far (p := ⟨gb330, 2, none⟩) (Kd.R_far (p := ⟨gb330, 2, none⟩) (Kd.R_far (p := ⟨gb330, 1, none⟩) (Kd.R_far (p := ⟨gb330, 0, none⟩) (Kd.R_mono HO_4.out (fun k_ hk => (⟨hk, hk.2⟩ : _ ∧ k_ ≠ gb330))) (fun _ hk => hk.2) (.string t326)) (fun _ hk => hk.2) (.bool true)) (fun _ hk => hk.2) (.string t328)) (fun _ hk => hk.2) (.string (⟨#[]⟩ : ByteArray))) (fun _ hk => hk.1.2))); (case aS => exact (below_size (by repeat (first | (with_reducible first | exact HB.out | apply below_alloc | apply pw_below_drewN | apply below_drew1 | refine below_set ?_ GE330.out) | exact HB.out)))); (case aL => have := LMc8.out; omega); intro v332 w13 ho hb hg hat; rw [← Ny331.out] at ho; have n0_ := Aside0.mk (Kd.R_over' (by (with_reducible repeat (first | apply Kd.R_alloc | apply Kd.R_drewN | apply Kd.R_drew)); exact (Kd.R_mono (Kd.R_far (p := ⟨gb330, 2, none⟩) (Kd.R_far (p := ⟨gb330, 2, none⟩) (Kd.R_far (p := ⟨gb330, 1, none⟩) (Kd.R_far (p := ⟨gb330, 0, none⟩) (Kd.R_types HO_3.out BK330.out (by decide)) (fun _ hk => hk.2) (.string t326)) (fun _ hk => hk.2) (.bool true)) (fun _ hk => hk.2) (.string t328)) (fun _ hk => hk.2) (.string (⟨#[]⟩ : ByteArray))) (fun _ h_ => h_.1))) (Kd.R_typed (by (with_reducible repeat (first | apply Kd.R_alloc | apply Kd.R_drewN | apply Kd.R_drew)); exact (Kd.R_mono (Kd.R_far (p := ⟨gb330, 2, none⟩) (Kd.R_far (p := ⟨gb330, 2, none⟩) (Kd.R_far (p := ⟨gb330, 1, none⟩) (Kd.R_far (p := ⟨gb330, 0, none⟩) (Kd.R_mono HO_4.out (fun k_ hk => (⟨hk, hk.2⟩ : _ ∧ k_ ≠ gb330))) (fun _ hk => hk.2) (.string t326)) (fun _ hk => hk.2) (.bool true)) (fun _ hk => hk.2) (.string t328)) (fun _ hk => hk.2) (.string (⟨#[]⟩ : ByteArray))) (fun _ h_ => h_.1)))) (by decide) hg); have n1_ := Aside0.mk (blk_grown (g := gb330) (o := .cells #[.string t326, .bool true, .string (⟨#[]⟩ : ByteArray)] 101 (0, 0)) (by (with_reducible repeat (first | refine blk_drewN ?_ _ | refine blk_drew ?_ | refine blk_alloc ?_ _)); refine blk_put (cs := #[.string t326, .bool true, .string t328]) ?_ 2 _ rfl; (with_reducible repeat (first | refine blk_drewN ?_ _ | refine blk_drew ?_ | refine blk_alloc ?_ _)); refine blk_put (cs := #[.string t326, .bool true, .string (⟨#[]⟩ : ByteArray)]) ?_ 2 _ rfl; (with_reducible repeat (first | refine blk_drewN ?_ _ | refine blk_drew ?_ | refine blk_alloc ?_ _)); refine blk_put (cs := #[.string t326, .bool false, .string (⟨#[]⟩ : ByteArray)]) ?_ 1 _ rfl; (with_reducible repeat (first | refine blk_drewN ?_ _ | refine blk_drew ?_ | refine blk_alloc ?_ _)); refine blk_put (cs := #[.string (⟨#[]⟩ : ByteArray), .bool false, .string (⟨#[]⟩ : ByteArray)]) ?_ 0 _ rfl; (with_reducible repeat (first | refine blk_drewN ?_ _ | refine blk_drew ?_ | refine blk_alloc ?_ _)); exact BK330.out) hg (Kd.R_away HO_4.out (fun _ hk => hk.2))); have n2_ := Aside0.mk (hb); have n3_ := Aside0.mk (ho); clear HO_3; clear BK330; clear HB; clear HO_4; have HO_3 := n0_; have BK330 := n1_; have HB := n2_; have HO333 := n3_; clear n0_ n1_ n2_ n3_; clear ho hb hg hat))
              go_roundg k1
              case measure => have := HK1.out; omega
              case rel => exact ⟨(y331), (wrap64 (x5_1 + 1)), (by first | rfl | (simp; done) | (simp [*]; done)), H', ⟨by have := HK1.out; omega⟩, ⟨by (with_reducible repeat (first | apply Kd.R_alloc | apply Kd.R_drewN | apply Kd.R_drew)); exact HO_3.out⟩, ⟨by (with_reducible repeat (first | apply Kd.R_alloc | apply Kd.R_drewN | apply Kd.R_drew)); exact Kd.R_mono HO333.out (fun _ hk => trivial)⟩, ⟨by repeat (first | (with_reducible first | exact HB.out | apply below_alloc | apply pw_below_drewN | apply below_drew1 | refine below_set ?_ GE330.out) | exact HB.out)⟩⟩
            · rw [if_neg c8] at H
              exact absurd H (by simp)
          · replace c7 := Bool.eq_false_iff.mpr c7
            subst c7
            have H1 : (if x4_1.length < 3518437208883 then (cachepotref1_BatchMake.l0 k1 l0 t322 (x4_1 ++ [(⟨t326, false, t328⟩ : S101)]) (wrap64 (x5_1 + 1))) else (none)) = some r := by rw [if_neg (show ¬ (false = true) by decide)] at H; exact H
            clear H
            have H := H1
            clear H1
            by_cases c14 : x4_1.length < 3518437208883
            · rw [if_pos c14] at H
              have LMc14 := Aside0.mk c14
              clear c14
              obtain ⟨y334, hy334⟩ : ∃ y_ : List (S101), y_ = (x4_1 ++ [(⟨t326, false, t328⟩ : S101)]) := ⟨_, rfl⟩
              replace H : (cachepotref1_BatchMake.l0 k1 l0 t322 y334 (wrap64 (x5_1 + 1))) = some r := by first | (rw [hy334]; with_reducible exact H) | (have H2_ := (Option.bind_some _ _).symm.trans H; rw [hy334]; with_reducible exact H2_) | (have H2_ := (Option.bind_some _ _).symm.trans H; with_reducible exact H2_) | with_reducible exact H | (rw [hy334]; exact H) | exact H
              have Ny334 := Aside0.mk hy334
              clear hy334
              have H' := Aside0.mk H
              clear H
              obtain ⟨Ao15, co15, eo15⟩ := Kd.R_slice HO_3.out
              subst eo15
              have p325 : 0 ≤ (x5_1 : Int) := of_decide_eq_true (by first | (with_reducible assumption) | assumption)
              have q325 : x5_1 < (t322.length : Int) := of_decide_eq_true (by first | (with_reducible assumption) | assumption)
              obtain ⟨ad325, e325, hx325_0⟩ := Kd.at_string (Kd.R_reads' HO_3.out).2.2 x5_1 p325 q325
              cases e325
              replace p325 := eq_true p325
              replace q325 := eq_true q325
              go_wp2_with (first | ((with_reducible refine gate_callee (f := 107) rfl ?_); refine goesL_ (some 22) rfl rfl Tryd.func107 (by kernel_rfl) rfl #[.slice A0 l0.length c0, .string (rdOf ByteArray.empty t322 x5_1)] rfl (by (try simp only [List.map_toArray, List.map_cons, List.map_nil]); first | done | rfl | (simp only [List.length_drop, List.length_take]; rfl)) ?_; (with_reducible refine (cachepotref1_BatchFind.calls k1 _ _ l0 (rdOf ByteArray.empty t322 x5_1) t326 false t328 t329 _ ?side1 ?side2 A6.out).mono ?_); (case side1 => repeat (first | exact (Kd.C_below HR0.out HB.out) | (with_reducible refine Kd.C_alloc ?_ _) | (with_reducible refine Kd.C_drewN ?_ _) | (with_reducible refine Kd.C_drew ?_))); (case side2 => exact HC0.out); rintro e w16 ⟨rfl, hb⟩; refine ⟨_, rfl, ?_⟩; have n0_ := Aside0.mk (Kd.R_below (by (with_reducible repeat (first | apply Kd.R_alloc | apply Kd.R_drewN | apply Kd.R_drew)); exact HO_3.out) hb); have n1_ := Aside0.mk (Kd.R_below (by (with_reducible repeat (first | apply Kd.R_alloc | apply Kd.R_drewN | apply Kd.R_drew)); exact HO_4.out) hb); have n2_ := Aside0.mk (below_step (by repeat (first | (with_reducible first | exact HB.out | apply below_alloc | apply pw_below_drewN | apply below_drew1) | exact HB.out)) hb); clear HO_3; clear HO_4; clear HB; have HO_3 := n0_; have HO_4 := n1_; have HB := n2_; clear n0_ n1_ n2_; (try clear hb); (try clear hb2); (try clear hk); (try clear hi)) | ((with_reducible refine gate_dst (N := 6) rfl ?_); refine box_event ?hg (N := 6) ?hd (cs := #[.string (⟨#[]⟩ : ByteArray), .bool false, .string (⟨#[]⟩ : ByteArray)]) (t := 101) ?hr ?_; (case hd => rfl); (case hg => rfl); (case hr => first | (go_simp; done) | (go_simp; rfl)); intro gb330 hg w17 hbox hb; have n0_ := Aside0.mk (Kd.R_below (by (with_reducible repeat (first | apply Kd.R_alloc | apply Kd.R_drewN | apply Kd.R_drew)); exact HO_3.out) hb); have n1_ := Aside0.mk (Kd.R_below (Kd.R_elderB (by (with_reducible repeat (first | apply Kd.R_alloc | apply Kd.R_drewN | apply Kd.R_drew)); exact HO_4.out) gb330 (Nat.le_of_eq hg.symm)) hb); have n2_ := Aside0.mk (below_step (by repeat (first | (with_reducible first | exact HB.out | apply below_alloc | apply pw_below_drewN | apply below_drew1) | exact HB.out)) hb); have n3_ := Aside0.mk (hbox); have n4_ := Aside0.mk ((by rw [hg]; exact (below_size (by repeat (first | (with_reducible first | exact HB.out | apply below_alloc | apply pw_below_drewN | apply below_drew1) | exact HB.out))) : w.heap.size ≤ gb330)); have n5_ := Aside0.mk ((by rw [hg]; exact (below_size (by repeat (first | (with_reducible first | exact HB.out | apply below_alloc | apply pw_below_drewN | apply below_drew1) | exact HB.out))) : w.heap.size ≤ gb330)); clear HO_3; clear HO_4; clear HB; have HO_3 := n0_; have HO_4 := n1_; have HB := n2_; have BK330 := n3_; have GW330 := n4_; have GE330 := n5_; clear n0_ n1_ n2_ n3_ n4_ n5_; clear hb hbox hg; have hcz18_0 : w17.cell? ⟨gb330, 0, none⟩ = some (.string (⟨#[]⟩ : ByteArray)) := (blk_cell BK330.out 0).trans rfl; have hcz18_1 : w17.cell? ⟨gb330, 1, none⟩ = some (.bool false) := (blk_cell BK330.out 1).trans rfl; have hcz18_2 : w17.cell? ⟨gb330, 2, none⟩ = some (.string (⟨#[]⟩ : ByteArray)) := (blk_cell BK330.out 2).trans rfl; have hfz18_0 := blk_frozen BK330.out 0; have hfz18_1 := blk_frozen BK330.out 1; have hfz18_2 := blk_frozen BK330.out 2) | ((with_reducible refine gate_builtin (b := .append) (xs := #[.tmp 28, .tmp 30]) rfl ?_); at_builtin; refine Kd.R_append k101 (w0 := w) w.heap.size rfl (.tmp 28) (.tmp 30) 40 101 (.agg #[(.string ⟨#[]⟩), (.bool false), (.string ⟨#[]⟩)]) 40 rfl Tryd.underlying40 info101 rfl (by decide) (by omega) u4 x4_1 (⟨t326, false, t328⟩ : S101) [.string t326, .bool false, .string t328] (fun k_ => k_ ≠ gb330) (fun _ => False) rfl (by first | (go_simp; done) | (go_simp; rfl)) ?aP (fun _ hk => hk.elim) ?aF ?aO ?aB ?aS ?aL ?_; (case aP => exact k101_mkM _ _ _ (⟨t326, false, t328⟩ : S101)); (case aB => exact (by repeat (first | (with_reducible first | exact HB.out | apply below_alloc | apply pw_below_drewN | apply below_drew1 | refine below_set ?_ GE330.out) | exact HB.out))); (case aF => exact (fun k_ hk => Kd.freshB (g := gb330) (o := .cells #[.string t326, .bool false, .string t328] 101 (0, 0)) (by (with_reducible repeat (first | refine blk_drewN ?_ _ | refine blk_drew ?_ | refine blk_alloc ?_ _)); refine blk_put (cs := #[.string t326, .bool false, .string (⟨#[]⟩ : ByteArray)]) ?_ 2 _ rfl; (with_reducible repeat (first | refine blk_drewN ?_ _ | refine blk_drew ?_ | refine blk_alloc ?_ _)); refine blk_put (cs := #[.string t326, .bool false, .string (⟨#[]⟩ : ByteArray)]) ?_ 1 _ rfl; (with_reducible repeat (first | refine blk_drewN ?_ _ | refine blk_drew ?_ | refine blk_alloc ?_ _)); refine blk_put (cs := #[.string (⟨#[]⟩ : ByteArray), .bool false, .string (⟨#[]⟩ : ByteArray)]) ?_ 0 _ rfl; (with_reducible repeat (first | refine blk_drewN ?_ _ | refine blk_drew ?_ | refine blk_alloc ?_ _)); exact BK330.out) k_ hk)); (case aO => exact (by (with_reducible repeat (first | apply Kd.R_alloc | apply Kd.R_drewN | apply Kd.R_drew)); exact Kd.R_mono (Kd.R_far (p := ⟨gb330, 2, none⟩) (Kd.R_far (p := ⟨gb330, 1, none⟩) (Kd.R_far (p := ⟨gb330, 0, none⟩) (Kd.R_mono HO_4.out (fun k_ hk => (⟨hk, hk.2⟩ : _ ∧ k_ ≠ gb330))) (fun _ hk => hk.2) (.string t326)) (fun _ hk => hk.2) (.bool false)) (fun _ hk => hk.2) (.string t328)) (fun _ hk => hk.1.2))); (case aS => exact (below_size (by repeat (first | (with_reducible first | exact HB.out | apply below_alloc | apply pw_below_drewN | apply below_drew1 | refine below_set ?_ GE330.out) | exact HB.out)))); (case aL => have := LMc14.out; omega); intro v335 w19 ho hb hg hat; rw [← Ny334.out] at ho; have n0_ := Aside0.mk (Kd.R_over' (by (with_reducible repeat (first | apply Kd.R_alloc | apply Kd.R_drewN | apply Kd.R_drew)); exact (Kd.R_mono (Kd.R_far (p := ⟨gb330, 2, none⟩) (Kd.R_far (p := ⟨gb330, 1, none⟩) (Kd.R_far (p := ⟨gb330, 0, none⟩) (Kd.R_types HO_3.out BK330.out (by decide)) (fun _ hk => hk.2) (.string t326)) (fun _ hk => hk.2) (.bool false)) (fun _ hk => hk.2) (.string t328)) (fun _ h_ => h_.1))) (Kd.R_typed (by (with_reducible repeat (first | apply Kd.R_alloc | apply Kd.R_drewN | apply Kd.R_drew)); exact (Kd.R_mono (Kd.R_far (p := ⟨gb330, 2, none⟩) (Kd.R_far (p := ⟨gb330, 1, none⟩) (Kd.R_far (p := ⟨gb330, 0, none⟩) (Kd.R_mono HO_4.out (fun k_ hk => (⟨hk, hk.2⟩ : _ ∧ k_ ≠ gb330))) (fun _ hk => hk.2) (.string t326)) (fun _ hk => hk.2) (.bool false)) (fun _ hk => hk.2) (.string t328)) (fun _ h_ => h_.1)))) (by decide) hg); have n1_ := Aside0.mk (blk_grown (g := gb330) (o := .cells #[.string t326, .bool false, .string t328] 101 (0, 0)) (by (with_reducible repeat (first | refine blk_drewN ?_ _ | refine blk_drew ?_ | refine blk_alloc ?_ _)); refine blk_put (cs := #[.string t326, .bool false, .string (⟨#[]⟩ : ByteArray)]) ?_ 2 _ rfl; (with_reducible repeat (first | refine blk_drewN ?_ _ | refine blk_drew ?_ | refine blk_alloc ?_ _)); refine blk_put (cs := #[.string t326, .bool false, .string (⟨#[]⟩ : ByteArray)]) ?_ 1 _ rfl; (with_reducible repeat (first | refine blk_drewN ?_ _ | refine blk_drew ?_ | refine blk_alloc ?_ _)); refine blk_put (cs := #[.string (⟨#[]⟩ : ByteArray), .bool false, .string (⟨#[]⟩ : ByteArray)]) ?_ 0 _ rfl; (with_reducible repeat (first | refine blk_drewN ?_ _ | refine blk_drew ?_ | refine blk_alloc ?_ _)); exact BK330.out) hg (Kd.R_away HO_4.out (fun _ hk => hk.2))); have n2_ := Aside0.mk (hb); have n3_ := Aside0.mk (ho); clear HO_3; clear BK330; clear HB; clear HO_4; have HO_3 := n0_; have BK330 := n1_; have HB := n2_; have HO336 := n3_; clear n0_ n1_ n2_ n3_; clear ho hb hg hat))
              go_roundg k1
              case measure => have := HK1.out; omega
              case rel => exact ⟨(y334), (wrap64 (x5_1 + 1)), (by first | rfl | (simp; done) | (simp [*]; done)), H', ⟨by have := HK1.out; omega⟩, ⟨by (with_reducible repeat (first | apply Kd.R_alloc | apply Kd.R_drewN | apply Kd.R_drew)); exact HO_3.out⟩, ⟨by (with_reducible repeat (first | apply Kd.R_alloc | apply Kd.R_drewN | apply Kd.R_drew)); exact Kd.R_mono HO336.out (fun _ hk => trivial)⟩, ⟨by repeat (first | (with_reducible first | exact HB.out | apply below_alloc | apply pw_below_drewN | apply below_drew1 | refine below_set ?_ GE330.out) | exact HB.out)⟩⟩
            · rw [if_neg c14] at H
              exact absurd H (by simp)
        · rw [if_neg c5] at H
          exact absurd H (by simp)
      · rw [if_neg c4] at H
        have c4b0 : decide (x5_1 < (t322.length : Int)) = false := decide_eq_false c4
        clear c4
        obtain rfl := Option.some.inj H
        obtain ⟨Ao20, co20, eo20⟩ := Kd.R_slice HO_3.out
        subst eo20
        go_wp2
        go_ret
        exact ⟨_, by first | rfl | (simp [errW_none, errW_some] <;> rfl) | (simp [*, errW_none, errW_some] <;> rfl), by (with_reducible repeat (first | apply Kd.R_alloc | apply Kd.R_drewN | apply Kd.R_drew)); exact HO_4.out, by repeat (first | (with_reducible first | exact HB.out | apply below_alloc | apply pw_below_drewN | apply below_drew1) | exact HB.out)⟩
end Go.Proofs.YtfaelejeihmgcaaDoor.Lgx
end

section
namespace Go.Proofs.YtfaelejeihmgcaaDoor.Lgx
open Go.RowKit Go.Proofs.YtfaelejeihmgcaaDoorW.PrintWords Go.Proofs.YtfaelejeihmgcaaDoorW.PrintLast Go.Proofs.YtfaelejeihmgcaaDoorW.PrintMore
attribute [local go_sem] max2_int min2_int max_two min_two max_three min_three max_four min_four   -- for this text's walks alone
set_option linter.unusedVariables false
set_option linter.unusedSimpArgs false
mutual
def cachepothand_Writes.l0 : Nat → List (S139) → Int → List (S101) → Int → Option ((List (S101)))
  | 0, _, _, _, _ => none
  | k + 1, x0, x1, x5, x6 => if x6 < (x0.length : Int) then (cachepothand_Writes.j1 k x0 x1 x5 x6 (decide (x6 < x1))) else (cachepothand_Writes.j1 k x0 x1 x5 x6 false)
def cachepothand_Writes.j1 : Nat → List (S139) → Int → List (S101) → Int → Bool → Option ((List (S101)))
  | 0, _, _, _, _, _ => none
  | k + 1, x0, x1, x5, x6, x16 => if x16 = true then (if 0 ≤ x6 then (if x6 < (x0.length : Int) then ((cachepothand_Key.f ((rd_T139 x0 x6).f0)).bind fun t347 => (if ((rd_T139 x0 x6).f1 = true) then (if x5.length < 3518437208883 then (cachepothand_Writes.l0 k x0 x1 (x5 ++ [(⟨t347, (rd_T139 x0 x6).f1, (⟨#[]⟩ : ByteArray)⟩ : S101)]) (wrap64 (x6 + 1))) else (none)) else ((cachepothand_Val.f k ((rd_T139 x0 x6).f2) (wrap64 (Int.tdiv ((rd_T139 x0 x6).f0) 12))).bind fun t355 => (if x5.length < 3518437208883 then (cachepothand_Writes.l0 k x0 x1 (x5 ++ [(⟨t347, (rd_T139 x0 x6).f1, t355⟩ : S101)]) (wrap64 (x6 + 1))) else (none))))) else (none)) else (none)) else (if (x5.length : Int) = 0 then ((cachepotref1_BatchMake.f k (([(⟨(⟨#[97]⟩ : ByteArray), false, (⟨#[49]⟩ : ByteArray)⟩ : S101)] : List (S101)))).bind fun t340 => (some t340)) else ((cachepotref1_BatchMake.f k x5).bind fun t343 => (some t343)))
end
def cachepothand_Writes.f (k : Nat) (l0 : List (S139)) (a1 : Int) : Option ((List (S101))) := cachepothand_Writes.l0 k l0 a1 ([] : List (S101)) 0
def cachepothand_Writes.T5 : Bool × List (List Nat × List Nat) := (true, [([], []), ([], []), ([0, 1], [0, 1]), ([2], [2]), ([3], [3]), ([4], [4]), ([], []), ([], []), ([6, 7], [6, 7]), ([8], [8]), ([9], [9]), ([5, 10], [5, 10]), ([], []), ([12, 11, 5, 0, 1, 2, 3, 4, 5, 6, 7, 8, 9, 10, 11, 12], [11, 12])])
def cachepothand_Writes.B5 : List Nat := [0, 0, 3, 7, 15, 31, 0, 0, 192, 448, 960, 2047, 0, 8191]
theorem cachepothand_Writes.tab5 : rtab .any (opsOf Tryd.f69 5) = cachepothand_Writes.T5 := by kernel_rfl
theorem cachepothand_Writes.bits5 : waitsOk cachepothand_Writes.T5.2 cachepothand_Writes.B5 = true := by kernel_rfl
def cachepothand_Writes.T7 : Bool × List (List Nat × List Nat) := (true, [([], []), ([], []), ([0, 1], [0, 1]), ([2], [2]), ([3], [3]), ([], []), ([], []), ([5, 6], [5, 6]), ([7], [7]), ([8], [8]), ([9], [9]), ([4, 10], [4, 10]), ([0, 1, 2, 3, 4, 5, 6, 7, 8, 9, 10, 11], []), ([12, 11, 11, 0, 1, 2, 3, 4, 5, 6, 7, 8, 9, 10, 11], [11, 12])])
def cachepothand_Writes.B7 : List Nat := [0, 0, 3, 7, 15, 0, 0, 96, 224, 480, 992, 2047, 4095, 8191]
theorem cachepothand_Writes.tab7 : rtab .any (opsOf Tryd.f69 7) = cachepothand_Writes.T7 := by kernel_rfl
theorem cachepothand_Writes.bits7 : waitsOk cachepothand_Writes.T7.2 cachepothand_Writes.B7 = true := by kernel_rfl
set_option maxHeartbeats 8000000 in
set_option maxRecDepth 100000 in
theorem cachepothand_Writes.calls (k : Nat) (A0 : Option Addr) (c0 : Nat) (l0 : List (S139)) (a1 : Int) (r : List (S101)) (w : World) (hr0 : Kd.C k139 w A0 l0.length l0) (hc0 : l0.length ≤ c0) (h : cachepothand_Writes.f k l0 a1 = some r) (hT : Tabs w) :
    Calls Tryd.prog 69 #[.slice A0 l0.length c0, .int .i64 a1] w fun e w' => ∃ v0_ : Value, e = .returned (v0_) ∧ Kd.R k101 101 w' w.heap.size (fun _ => True) v0_ r ∧ Below w.heap.size w w' := by
  have hu101 := Tryd.underlying101
  have HR0 := Aside0.mk hr0
  have HC0 := Aside0.mk hc0
  clear hr0 hc0
  have HB := Aside0.mk (Below.refl w.heap.size w)
  have H : (cachepothand_Writes.l0 k l0 a1 ([] : List (S101)) 0) = some r := h
  clear h
  have H' := Aside0.mk H
  clear H
  go_enter Tryd.func69, Tryd.ntmps69
  go_wp2
  go_loopg [5, 6] k (fun kq v5 v6 w' => ∃ (x5_1 : List (S101)) (x6_1 : Int), v6 = .int .i64 x6_1 ∧ Aside0 (cachepothand_Writes.l0 kq l0 a1 x5_1 x6_1 = some r) ∧ Aside0 (kq ≤ k) ∧ Aside0 (Kd.R k101 101 w' w.heap.size (fun _ => True) v5 x5_1) ∧ Aside0 (Below w.heap.size w w'))
  case atStart => exact ⟨(([] : List (S101))), (0), (by first | rfl | (simp; done) | (simp [*]; done)), H', ⟨Nat.le_refl _⟩, ⟨by first | exact Kd.R_nil _ _ _ _ _ | exact Kd.N_nil _ _ _ _ _ | exact Kd.V_nil _ _ _ _ _ | exact Kd.Q_nil _ _ _ _ _ | exact Kd.S_nil _ _ _ _ _⟩, ⟨by repeat (first | (with_reducible first | exact HB.out | apply below_alloc | apply pw_below_drewN | apply below_drew1) | exact HB.out)⟩⟩
  case round =>
    clear H'
    try clear p2
    obtain ⟨x5_1, x6_1, rfl, HA, HK1, HO_5, HB⟩ := hrel
    cases gk with
    | zero => exact absurd HA.out (by simp [cachepothand_Writes.l0])
    | succ k1 =>
      have H := HA.out
      clear HA
      simp only [cachepothand_Writes.l0] at H
      have HC3 := Aside0.mk H
      clear H
      go_upto_region 3 with (fail)
      go_cut [16] (fun v16 wc => ∃ (kq : Nat) (x16_2 : Bool), v16 = .bool x16_2 ∧ Aside0 (cachepothand_Writes.j1 kq l0 a1 x5_1 x6_1 x16_2 = some r) ∧ Aside0 (kq ≤ k1) ∧ Aside0 (Kd.R k101 101 wc w.heap.size (fun _ => True) u5 x5_1) ∧ Aside0 (Below w.heap.size w wc))
      case first =>
        have H := HC3.out
        clear HC3
        by_cases c4 : x6_1 < (l0.length : Int)
        · rw [if_pos c4] at H
          have c4b0 : decide (x6_1 < (l0.length : Int)) = true := decide_eq_true c4
          clear c4
          (first | rw [c4b0] | (simp only [i64_w, i32_w]; rw [c4b0]) | skip)
          have H' := Aside0.mk H
          clear H
          go_wp2
          go_meet
          case rel => exact ⟨_, (decide (x6_1 < a1)), (by first | rfl | (simp; done) | (simp [*]; done)), H', ⟨by have := HK1.out; first | omega | exact Nat.le_refl _⟩, ⟨by (with_reducible repeat (first | apply Kd.R_alloc | apply Kd.R_drewN | apply Kd.R_drew)); exact HO_5.out⟩, ⟨by repeat (first | (with_reducible first | exact HB.out | apply below_alloc | apply pw_below_drewN | apply below_drew1) | exact HB.out)⟩⟩
        · rw [if_neg c4] at H
          have c4b0 : decide (x6_1 < (l0.length : Int)) = false := decide_eq_false c4
          clear c4
          (first | rw [c4b0] | (simp only [i64_w, i32_w]; rw [c4b0]) | skip)
          have H' := Aside0.mk H
          clear H
          go_wp2
          go_meet
          case rel => exact ⟨_, (false), (by first | rfl | (simp; done) | (simp [*]; done)), H', ⟨by have := HK1.out; first | omega | exact Nat.le_refl _⟩, ⟨by (with_reducible repeat (first | apply Kd.R_alloc | apply Kd.R_drewN | apply Kd.R_drew)); exact HO_5.out⟩, ⟨by repeat (first | (with_reducible first | exact HB.out | apply below_alloc | apply pw_below_drewN | apply below_drew1) | exact HB.out)⟩⟩
      case rest =>
        clear HC3
        try clear p2
        try clear c4
        try clear c4b0
        try clear p2
        obtain ⟨kq, x16_2, rfl, HA, HJ2, HO_5, HB⟩ := hcut
        cases kq with
        | zero => exact absurd HA.out (by simp [cachepothand_Writes.j1])
        | succ kj2 =>
          have H := HA.out
          clear HA
          simp only [cachepothand_Writes.j1] at H
          by_cases c5 : x16_2 = true
          · subst c5
            have H1 : (if 0 ≤ x6_1 then (if x6_1 < (l0.length : Int) then ((cachepothand_Key.f ((rd_T139 l0 x6_1).f0)).bind fun t347 => (if ((rd_T139 l0 x6_1).f1 = true) then (if x5_1.length < 3518437208883 then (cachepothand_Writes.l0 kj2 l0 a1 (x5_1 ++ [(⟨t347, (rd_T139 l0 x6_1).f1, (⟨#[]⟩ : ByteArray)⟩ : S101)]) (wrap64 (x6_1 + 1))) else (none)) else ((cachepothand_Val.f kj2 ((rd_T139 l0 x6_1).f2) (wrap64 (Int.tdiv ((rd_T139 l0 x6_1).f0) 12))).bind fun t355 => (if x5_1.length < 3518437208883 then (cachepothand_Writes.l0 kj2 l0 a1 (x5_1 ++ [(⟨t347, (rd_T139 l0 x6_1).f1, t355⟩ : S101)]) (wrap64 (x6_1 + 1))) else (none))))) else (none)) else (none)) = some r := by rw [if_pos rfl] at H; exact H
            clear H
            have H := H1
            clear H1
            by_cases c6 : 0 ≤ x6_1
            · rw [if_pos c6] at H
              have c6b0 : decide (0 ≤ x6_1) = true := decide_eq_true c6
              clear c6
              by_cases c7 : x6_1 < (l0.length : Int)
              · rw [if_pos c7] at H
                have c7b0 : decide (x6_1 < (l0.length : Int)) = true := decide_eq_true c7
                clear c7
                replace H := Option.bind_eq_some_iff.mp H
                obtain ⟨t347, A80, H⟩ := H
                replace H : (if ((rd_T139 l0 x6_1).f1 = true) then (if x5_1.length < 3518437208883 then (cachepothand_Writes.l0 kj2 l0 a1 (x5_1 ++ [(⟨t347, (rd_T139 l0 x6_1).f1, (⟨#[]⟩ : ByteArray)⟩ : S101)]) (wrap64 (x6_1 + 1))) else (none)) else ((cachepothand_Val.f kj2 ((rd_T139 l0 x6_1).f2) (wrap64 (Int.tdiv ((rd_T139 l0 x6_1).f0) 12))).bind fun t355 => (if x5_1.length < 3518437208883 then (cachepothand_Writes.l0 kj2 l0 a1 (x5_1 ++ [(⟨t347, (rd_T139 l0 x6_1).f1, t355⟩ : S101)]) (wrap64 (x6_1 + 1))) else (none)))) = some r := H
                have A8 := Aside0.mk A80
                clear A80
                obtain ⟨bq9, hbq9⟩ : ∃ b_ : Bool, b_ = ((rd_T139 l0 x6_1).f1) := ⟨_, rfl⟩
                replace H : (if (bq9 = true) then (if x5_1.length < 3518437208883 then (cachepothand_Writes.l0 kj2 l0 a1 (x5_1 ++ [(⟨t347, bq9, (⟨#[]⟩ : ByteArray)⟩ : S101)]) (wrap64 (x6_1 + 1))) else (none)) else ((cachepothand_Val.f kj2 ((rd_T139 l0 x6_1).f2) (wrap64 (Int.tdiv ((rd_T139 l0 x6_1).f0) 12))).bind fun t355 => (if x5_1.length < 3518437208883 then (cachepothand_Writes.l0 kj2 l0 a1 (x5_1 ++ [(⟨t347, bq9, t355⟩ : S101)]) (wrap64 (x6_1 + 1))) else (none)))) = some r := by rw [← hbq9] at H; exact H
                have Nbq9 := Aside0.mk hbq9
                clear hbq9
                by_cases c10 : (bq9 = true)
                · subst c10
                  have H1 : (if x5_1.length < 3518437208883 then (cachepothand_Writes.l0 kj2 l0 a1 (x5_1 ++ [(⟨t347, true, (⟨#[]⟩ : ByteArray)⟩ : S101)]) (wrap64 (x6_1 + 1))) else (none)) = some r := by rw [if_pos rfl] at H; exact H
                  clear H
                  have H := H1
                  clear H1
                  by_cases c11 : x5_1.length < 3518437208883
                  · rw [if_pos c11] at H
                    have LMc11 := Aside0.mk c11
                    clear c11
                    obtain ⟨y350, hy350⟩ : ∃ y_ : List (S101), y_ = (x5_1 ++ [(⟨t347, true, (⟨#[]⟩ : ByteArray)⟩ : S101)]) := ⟨_, rfl⟩
                    replace H : (cachepothand_Writes.l0 kj2 l0 a1 y350 (wrap64 (x6_1 + 1))) = some r := by first | (rw [hy350]; with_reducible exact H) | (have H2_ := (Option.bind_some _ _).symm.trans H; rw [hy350]; with_reducible exact H2_) | (have H2_ := (Option.bind_some _ _).symm.trans H; with_reducible exact H2_) | with_reducible exact H | (rw [hy350]; exact H) | exact H
                    have Ny350 := Aside0.mk hy350
                    clear hy350
                    have H' := Aside0.mk H
                    clear H
                    try go_wp2
                    have n0_ := Aside0.mk (Kd.R_drew HO_5.out)
                    have n1_ := Aside0.mk (below_drew1 HB.out)
                    clear HO_5
                    clear HB
                    have HO_5 := n0_
                    have HB := n1_
                    clear n0_ n1_
                    have p346 : 0 ≤ (x6_1 : Int) := of_decide_eq_true (by first | (with_reducible assumption) | assumption)
                    have q346 : x6_1 < (l0.length : Int) := of_decide_eq_true (by first | (with_reducible assumption) | assumption)
                    obtain ⟨ad346, e346, hx346_0, hx346_1, hx346_2⟩ := at_T139 HR0.out x6_1 p346 q346
                    have hw346_2 := hx346_2
                    have hw346_1 := hx346_1
                    have hw346_0 := hx346_0
                    (try rw [← Nbq9.out] at hx346_1)
                    (try rw [← Nbq9.out] at hw346_1)
                    cases e346
                    replace hx346_0 := (HB.out.cell (World.block_lt_of_cell? w _ hx346_0)).trans hx346_0
                    replace hx346_1 := (HB.out.cell (World.block_lt_of_cell? w _ hx346_1)).trans hx346_1
                    replace hx346_2 := (HB.out.cell (World.block_lt_of_cell? w _ hx346_2)).trans hx346_2
                    replace p346 := eq_true p346
                    replace q346 := eq_true q346
                    have p348 : 0 ≤ (x6_1 : Int) := of_decide_eq_true (by first | (with_reducible assumption) | assumption)
                    have q348 : x6_1 < (l0.length : Int) := of_decide_eq_true (by first | (with_reducible assumption) | assumption)
                    obtain ⟨ad348, e348, hx348_0, hx348_1, hx348_2⟩ := at_T139 HR0.out x6_1 p348 q348
                    have hw348_2 := hx348_2
                    have hw348_1 := hx348_1
                    have hw348_0 := hx348_0
                    (try rw [← Nbq9.out] at hx348_1)
                    (try rw [← Nbq9.out] at hw348_1)
                    obtain rfl : ad346 = ad348 := (by injection e348)
                    replace hx348_0 := (HB.out.cell (World.block_lt_of_cell? w _ hx348_0)).trans hx348_0
                    replace hx348_1 := (HB.out.cell (World.block_lt_of_cell? w _ hx348_1)).trans hx348_1
                    replace hx348_2 := (HB.out.cell (World.block_lt_of_cell? w _ hx348_2)).trans hx348_2
                    replace p348 := eq_true p348
                    replace q348 := eq_true q348
                    refine start_ (n := 14) (S := fun w' => w'.cell? (ad346.add ((x6_1).toNat * 3)) = some (.int .i64 ((rd_T139 l0 x6_1).f0)) ∧ w'.cell? ⟨(ad346.add ((x6_1).toNat * 3)).block, (ad346.add ((x6_1).toNat * 3)).off + 1, none⟩ = some (.bool true) ∧ w'.cell? ⟨(ad346.add ((x6_1).toNat * 3)).block, (ad346.add ((x6_1).toNat * 3)).off + 2, none⟩ = some (.string ((rd_T139 l0 x6_1).f2)) ∧ w'.cell? (ad346.add ((x6_1).toNat * 3)) = some (.int .i64 ((rd_T139 l0 x6_1).f0)) ∧ w'.cell? ⟨(ad346.add ((x6_1).toNat * 3)).block, (ad346.add ((x6_1).toNat * 3)).off + 1, none⟩ = some (.bool true) ∧ w'.cell? ⟨(ad346.add ((x6_1).toNat * 3)).block, (ad346.add ((x6_1).toNat * 3)).off + 2, none⟩ = some (.string ((rd_T139 l0 x6_1).f2))) (ds := []) #[false, false, false, false, false, false, false, false, false, false, false, false, false, false] (by kernel_rfl) rfl rfl ⟨((HB.out.cell (World.block_lt_of_cell? w _ hw346_0)).trans hw346_0), ((HB.out.cell (World.block_lt_of_cell? w _ hw346_1)).trans hw346_1), ((HB.out.cell (World.block_lt_of_cell? w _ hw346_2)).trans hw346_2), ((HB.out.cell (World.block_lt_of_cell? w _ hw348_0)).trans hw348_0), ((HB.out.cell (World.block_lt_of_cell? w _ hw348_1)).trans hw348_1), ((HB.out.cell (World.block_lt_of_cell? w _ hw348_2)).trans hw348_2)⟩ (fun hHeld => ?_); refine with_tabW cachepothand_Writes.tab5 cachepothand_Writes.bits5 (fun HT_ HW_ => ?_)
                    generalize wc.drew = w12 at HO_5 HB hx346_0 hx346_1 hx346_2 hx348_0 hx348_1 hx348_2 hHeld ⊢
                    refine pure_ (i := 0) (N := some 19) (v := ?_) (a' := ?_) #[true, false, false, false, false, false, false, false, false, false, false, false, false, false] rfl rfl (any_of HT_.out (by kernel_rfl)) (fun _ _ _ h => h) (Or.inl ⟨by rfl, ?_⟩) ?_ ?_
                    rotate_left
                    · intro w'
                      go_simp
                      with_reducible rfl
                    rotate_left
                    · simp only [Act.put, List.setIfInBounds_toArray, List.set_cons_zero, List.set_cons_succ, i64_w, i32_w]
                      rfl
                    refine pure_ (i := 1) (N := some 20) (v := ?_) (a' := ?_) #[true, true, false, false, false, false, false, false, false, false, false, false, false, false] rfl rfl (any_of HT_.out (by kernel_rfl)) (fun _ _ _ h => h) (Or.inl ⟨by rfl, ?_⟩) ?_ ?_
                    rotate_left
                    · intro w'
                      go_simp
                      with_reducible rfl
                    rotate_left
                    · simp only [Act.put, List.setIfInBounds_toArray, List.set_cons_zero, List.set_cons_succ, i64_w, i32_w]
                      rfl
                    refine pure_ (i := 2) (N := some 21) (v := ?_) (a' := ?_) #[true, true, true, false, false, false, false, false, false, false, false, false, false, false] rfl rfl (any_of HT_.out (by kernel_rfl)) (fun _ _ _ h => h) (Or.inl ⟨by rfl, ?_⟩) ?_ ?_
                    rotate_left
                    · intro w'
                      go_simp
                      with_reducible rfl
                    rotate_left
                    · simp only [Act.put, List.setIfInBounds_toArray, List.set_cons_zero, List.set_cons_succ, i64_w, i32_w]
                      rfl
                    refine pure_ (i := 3) (N := some 22) (v := ?_) (a' := ?_) #[true, true, true, true, false, false, false, false, false, false, false, false, false, false] rfl rfl (any_of HT_.out (by kernel_rfl)) (fun _ _ _ h => h) (Or.inl ⟨by rfl, ?_⟩) ?_ ?_
                    rotate_left
                    · intro w'
                      go_simp
                      with_reducible rfl
                    rotate_left
                    · simp only [Act.put, List.setIfInBounds_toArray, List.set_cons_zero, List.set_cons_succ, i64_w, i32_w]
                      rfl
                    refine pure_ (i := 6) (N := some 25) (v := ?_) (a' := ?_) #[true, true, true, true, false, false, true, false, false, false, false, false, false, false] rfl rfl (any_of HT_.out (by kernel_rfl)) (fun _ _ _ h => h) (Or.inl ⟨by rfl, ?_⟩) ?_ ?_
                    rotate_left
                    · intro w'
                      go_simp
                      with_reducible rfl
                    rotate_left
                    · simp only [Act.put, List.setIfInBounds_toArray, List.set_cons_zero, List.set_cons_succ, i64_w, i32_w]
                      rfl
                    refine pure_ (i := 7) (N := some 26) (v := ?_) (a' := ?_) #[true, true, true, true, false, false, true, true, false, false, false, false, false, false] rfl rfl (any_of HT_.out (by kernel_rfl)) (fun _ _ _ h => h) (Or.inl ⟨by rfl, ?_⟩) ?_ ?_
                    rotate_left
                    · intro w'
                      go_simp
                      with_reducible rfl
                    rotate_left
                    · simp only [Act.put, List.setIfInBounds_toArray, List.set_cons_zero, List.set_cons_succ, i64_w, i32_w]
                      rfl
                    refine pure_ (i := 8) (N := some 27) (v := ?_) (a' := ?_) #[true, true, true, true, false, false, true, true, true, false, false, false, false, false] rfl rfl (any_of HT_.out (by kernel_rfl)) (fun _ _ _ h => h) (Or.inl ⟨by rfl, ?_⟩) ?_ ?_
                    rotate_left
                    · intro w'
                      go_simp
                      with_reducible rfl
                    rotate_left
                    · simp only [Act.put, List.setIfInBounds_toArray, List.set_cons_zero, List.set_cons_succ, i64_w, i32_w]
                      rfl
                    refine pure_ (i := 9) (N := some 28) (v := ?_) (a' := ?_) #[true, true, true, true, false, false, true, true, true, true, false, false, false, false] rfl rfl (any_of HT_.out (by kernel_rfl)) (fun _ _ _ h => h) (Or.inl ⟨by rfl, ?_⟩) ?_ ?_
                    rotate_left
                    · intro w'
                      go_simp
                      with_reducible rfl
                    rotate_left
                    · simp only [Act.put, List.setIfInBounds_toArray, List.set_cons_zero, List.set_cons_succ, i64_w, i32_w]
                      rfl
                    refine take_ (i := 4) (N := some 23) (v := ?_) (a' := ?_) #[true, true, true, true, true, false, true, true, true, true, false, false, false, false] rfl rfl (take_ofW HT_.out HW_.out (by kernel_rfl)) (fun _ _ _ h => h) (Or.inl ⟨by rfl, ?_⟩) hHeld ?_ ?_
                    rotate_left
                    · rintro w' ⟨s0, s1, s2, s3, s4, s5⟩
                      go_simp
                      with_reducible rfl
                    rotate_left
                    · simp only [Act.put, List.setIfInBounds_toArray, List.set_cons_zero, List.set_cons_succ, i64_w, i32_w]
                      rfl
                    refine take_ (i := 10) (N := some 29) (v := ?_) (a' := ?_) #[true, true, true, true, true, false, true, true, true, true, true, false, false, false] rfl rfl (take_ofW HT_.out HW_.out (by kernel_rfl)) (fun _ _ _ h => h) (Or.inl ⟨by rfl, ?_⟩) hHeld ?_ ?_
                    rotate_left
                    · rintro w' ⟨s0, s1, s2, s3, s4, s5⟩
                      go_simp
                      with_reducible rfl
                    rotate_left
                    · simp only [Act.put, List.setIfInBounds_toArray, List.set_cons_zero, List.set_cons_succ, i64_w, i32_w]
                      rfl
                    refine join_ (σ := Nat) 1 #[true, true, true, true, true, true, true, true, true, true, true, true, true, false] (fun s_ => [(24, .string t347), (7, .pointer (some ⟨s_, 0, none⟩)), (30, .agg #[.string t347, .bool true, .string (⟨#[]⟩ : ByteArray)])]) (fun s_ w' => (w'.cell? (ad346.add ((x6_1).toNat * 3)) = some (.int .i64 ((rd_T139 l0 x6_1).f0)) ∧ w'.cell? ⟨(ad346.add ((x6_1).toNat * 3)).block, (ad346.add ((x6_1).toNat * 3)).off + 1, none⟩ = some (.bool true) ∧ w'.cell? ⟨(ad346.add ((x6_1).toNat * 3)).block, (ad346.add ((x6_1).toNat * 3)).off + 2, none⟩ = some (.string ((rd_T139 l0 x6_1).f2)) ∧ w'.cell? (ad346.add ((x6_1).toNat * 3)) = some (.int .i64 ((rd_T139 l0 x6_1).f0)) ∧ w'.cell? ⟨(ad346.add ((x6_1).toNat * 3)).block, (ad346.add ((x6_1).toNat * 3)).off + 1, none⟩ = some (.bool true) ∧ w'.cell? ⟨(ad346.add ((x6_1).toNat * 3)).block, (ad346.add ((x6_1).toNat * 3)).off + 2, none⟩ = some (.string ((rd_T139 l0 x6_1).f2))) ∧ (Kd.R k101 101 w' w.heap.size (fun k_ => k_ ≠ s_) u5 x5_1) ∧ (w'.heap[s_]? = some (.cells #[.string (⟨#[]⟩ : ByteArray), .bool false, .string (⟨#[]⟩ : ByteArray)] 101 (0, 0))) ∧ (w.heap.size ≤ s_) ∧ (w.heap.size ≤ s_) ∧ (Below w.heap.size w w')) ?_ ?_
                    rotate_left
                    · intro hCont
                      refine two_ (i := 5) (j := 12) (Ni := some 24) (Nj := some 7) #[true, true, true, true, true, true, true, true, true, true, true, false, false, false] #[true, true, true, true, true, false, true, true, true, true, true, false, true, false] rfl rfl rfl rfl (two_of HT_.out (by kernel_rfl)) (by decide) (by decide) (fun K hK => ?_) (fun K hK => ?_)
                      · skip
                        refine goes_ Tryd.func50 (by kernel_rfl) rfl #[.int .i64 ((rd_T139 l0 x6_1).f0)] (by rfl) rfl rfl (by (try simp only [List.map_toArray, List.map_cons, List.map_nil]); first | done | rfl | (simp only [List.length_drop, List.length_take]; rfl)) ?_
                        with_reducible refine (cachepothand_Key.calls ((rd_T139 l0 x6_1).f0) t347 _ A8.out (by first | exact hT | (refine Tabs.below hT ?_; (repeat (first | (with_reducible first | exact HB.out | exact Below.refl _ _ | apply below_alloc | apply pw_below_drewN | apply below_drew1) | exact HB.out))))).mono ?_
                        rintro e w13 ⟨rfl, hb⟩
                        refine ⟨_, rfl, ?_⟩
                        have n0_ := Aside0.mk (Kd.R_below (by (with_reducible repeat (first | apply Kd.R_alloc | apply Kd.R_drewN | apply Kd.R_drew)); exact HO_5.out) hb)
                        have n1_ := Aside0.mk (below_step (by repeat (first | (with_reducible first | exact HB.out | apply below_alloc | apply pw_below_drewN | apply below_drew1) | exact HB.out)) hb)
                        clear HO_5
                        clear HB
                        have HO_5 := n0_
                        have HB := n1_
                        clear n0_ n1_
                        (try clear hb)
                        (try clear hb2)
                        (try clear hk)
                        (try clear hi)
                        refine hK.out _ _ ⟨((HB.out.cell (World.block_lt_of_cell? w _ hw346_0)).trans hw346_0), ((HB.out.cell (World.block_lt_of_cell? w _ hw346_1)).trans hw346_1), ((HB.out.cell (World.block_lt_of_cell? w _ hw346_2)).trans hw346_2), ((HB.out.cell (World.block_lt_of_cell? w _ hw348_0)).trans hw348_0), ((HB.out.cell (World.block_lt_of_cell? w _ hw348_1)).trans hw348_1), ((HB.out.cell (World.block_lt_of_cell? w _ hw348_2)).trans hw348_2)⟩ (fun hHeld => ?_)
                        clear hK K
                        refine norm_ (a' := ?_) ?_ ?_
                        rotate_left
                        · show Act.put _ (some 24) _ = _
                          simp only [Act.put, List.setIfInBounds_toArray, List.set_cons_zero, List.set_cons_succ, i64_w, i32_w]
                          rfl
                        refine pure_ (i := 11) (N := some 30) (v := ?_) (a' := ?_) #[true, true, true, true, true, true, true, true, true, true, true, true, false, false] rfl rfl (any_of HT_.out (by kernel_rfl)) (fun _ _ _ h => h) (Or.inl ⟨by rfl, ?_⟩) ?_ ?_
                        rotate_left
                        · intro w'
                          go_simp
                          with_reducible rfl
                        rotate_left
                        · simp only [Act.put, List.setIfInBounds_toArray, List.set_cons_zero, List.set_cons_succ, i64_w, i32_w]
                          rfl
                        refine one_ (i := 12) (N := some 7) #[true, true, true, true, true, true, true, true, true, true, true, true, true, false] rfl rfl (one_of HT_.out (by kernel_rfl)) (by decide) (fun K hK => ?_)
                        refine box_step ?hg (N := 7) ?hd (cs := #[.string (⟨#[]⟩ : ByteArray), .bool false, .string (⟨#[]⟩ : ByteArray)]) (t := 101) ?hr ?_; (case hd => rfl); (case hg => rfl); (case hr => first | (go_simp; done) | (go_simp; rfl))
                        intro gb349 hg w14 hbox hb
                        have n0_ := Aside0.mk (Kd.R_below (Kd.R_elderB (by (with_reducible repeat (first | apply Kd.R_alloc | apply Kd.R_drewN | apply Kd.R_drew)); exact HO_5.out) gb349 (Nat.le_of_eq hg.symm)) hb)
                        have n1_ := Aside0.mk (below_step (by repeat (first | (with_reducible first | exact HB.out | apply below_alloc | apply pw_below_drewN | apply below_drew1) | exact HB.out)) hb)
                        have n2_ := Aside0.mk (hbox)
                        have n3_ := Aside0.mk ((by rw [hg]; exact (below_size (by repeat (first | (with_reducible first | exact HB.out | apply below_alloc | apply pw_below_drewN | apply below_drew1) | exact HB.out))) : w.heap.size ≤ gb349))
                        have n4_ := Aside0.mk ((by rw [hg]; exact (below_size (by repeat (first | (with_reducible first | exact HB.out | apply below_alloc | apply pw_below_drewN | apply below_drew1) | exact HB.out))) : w.heap.size ≤ gb349))
                        clear HO_5
                        clear HB
                        have HO_5 := n0_
                        have HB := n1_
                        have BK349 := n2_
                        have GW349 := n3_
                        have GE349 := n4_
                        clear n0_ n1_ n2_ n3_ n4_
                        clear hb hbox hg
                        refine hK.out _ _ ⟨((HB.out.cell (World.block_lt_of_cell? w _ hw346_0)).trans hw346_0), ((HB.out.cell (World.block_lt_of_cell? w _ hw346_1)).trans hw346_1), ((HB.out.cell (World.block_lt_of_cell? w _ hw346_2)).trans hw346_2), ((HB.out.cell (World.block_lt_of_cell? w _ hw348_0)).trans hw348_0), ((HB.out.cell (World.block_lt_of_cell? w _ hw348_1)).trans hw348_1), ((HB.out.cell (World.block_lt_of_cell? w _ hw348_2)).trans hw348_2)⟩ (fun hHeld => ?_)
                        clear hK K
                        refine norm_ (a' := ?_) ?_ ?_
                        rotate_left
                        · show Act.put _ (some 7) _ = _
                          simp only [Act.put, List.setIfInBounds_toArray, List.set_cons_zero, List.set_cons_succ, i64_w, i32_w]
                          rfl
                        exact norm_ (by simp only [putAll, Act.put, List.setIfInBounds_toArray, List.set_cons_zero, List.set_cons_succ]) (hCont (gb349) _ ⟨hHeld, (by (with_reducible repeat (first | apply Kd.R_alloc | apply Kd.R_drewN | apply Kd.R_drew)); exact Kd.R_mono HO_5.out (fun _ hk => hk.2)), (by (with_reducible repeat (first | refine blk_drewN ?_ _ | refine blk_drew ?_ | refine blk_alloc ?_ _)); exact BK349.out), GW349.out, GE349.out, (by repeat (first | (with_reducible first | exact HB.out | apply below_alloc | apply pw_below_drewN | apply below_drew1 | refine below_set ?_ GE349.out) | exact HB.out))⟩)
                      · skip
                        refine box_step ?hg (N := 7) ?hd (cs := #[.string (⟨#[]⟩ : ByteArray), .bool false, .string (⟨#[]⟩ : ByteArray)]) (t := 101) ?hr ?_; (case hd => rfl); (case hg => rfl); (case hr => first | (go_simp; done) | (go_simp; rfl))
                        intro gb349 hg w13 hbox hb
                        have n0_ := Aside0.mk (Kd.R_below (Kd.R_elderB (by (with_reducible repeat (first | apply Kd.R_alloc | apply Kd.R_drewN | apply Kd.R_drew)); exact HO_5.out) gb349 (Nat.le_of_eq hg.symm)) hb)
                        have n1_ := Aside0.mk (below_step (by repeat (first | (with_reducible first | exact HB.out | apply below_alloc | apply pw_below_drewN | apply below_drew1) | exact HB.out)) hb)
                        have n2_ := Aside0.mk (hbox)
                        have n3_ := Aside0.mk ((by rw [hg]; exact (below_size (by repeat (first | (with_reducible first | exact HB.out | apply below_alloc | apply pw_below_drewN | apply below_drew1) | exact HB.out))) : w.heap.size ≤ gb349))
                        have n4_ := Aside0.mk ((by rw [hg]; exact (below_size (by repeat (first | (with_reducible first | exact HB.out | apply below_alloc | apply pw_below_drewN | apply below_drew1) | exact HB.out))) : w.heap.size ≤ gb349))
                        clear HO_5
                        clear HB
                        have HO_5 := n0_
                        have HB := n1_
                        have BK349 := n2_
                        have GW349 := n3_
                        have GE349 := n4_
                        clear n0_ n1_ n2_ n3_ n4_
                        clear hb hbox hg
                        refine hK.out _ _ ⟨((HB.out.cell (World.block_lt_of_cell? w _ hw346_0)).trans hw346_0), ((HB.out.cell (World.block_lt_of_cell? w _ hw346_1)).trans hw346_1), ((HB.out.cell (World.block_lt_of_cell? w _ hw346_2)).trans hw346_2), ((HB.out.cell (World.block_lt_of_cell? w _ hw348_0)).trans hw348_0), ((HB.out.cell (World.block_lt_of_cell? w _ hw348_1)).trans hw348_1), ((HB.out.cell (World.block_lt_of_cell? w _ hw348_2)).trans hw348_2)⟩ (fun hHeld => ?_)
                        clear hK K
                        refine norm_ (a' := ?_) ?_ ?_
                        rotate_left
                        · show Act.put _ (some 7) _ = _
                          simp only [Act.put, List.setIfInBounds_toArray, List.set_cons_zero, List.set_cons_succ, i64_w, i32_w]
                          rfl
                        refine one_ (i := 5) (N := some 24) #[true, true, true, true, true, true, true, true, true, true, true, false, true, false] rfl rfl (one_of HT_.out (by kernel_rfl)) (by decide) (fun K hK => ?_)
                        refine goes_ Tryd.func50 (by kernel_rfl) rfl #[.int .i64 ((rd_T139 l0 x6_1).f0)] (by rfl) rfl rfl (by (try simp only [List.map_toArray, List.map_cons, List.map_nil]); first | done | rfl | (simp only [List.length_drop, List.length_take]; rfl)) ?_
                        with_reducible refine (cachepothand_Key.calls ((rd_T139 l0 x6_1).f0) t347 _ A8.out (by first | exact hT | (refine Tabs.below hT ?_; (repeat (first | (with_reducible first | exact HB.out | exact Below.refl _ _ | apply below_alloc | apply pw_below_drewN | apply below_drew1) | exact HB.out))))).mono ?_
                        rintro e w14 ⟨rfl, hb⟩
                        refine ⟨_, rfl, ?_⟩
                        have n0_ := Aside0.mk (Kd.R_below (by (with_reducible repeat (first | apply Kd.R_alloc | apply Kd.R_drewN | apply Kd.R_drew)); exact HO_5.out) hb)
                        have n1_ := Aside0.mk (blk_below (g := gb349) (o := .cells #[.string (⟨#[]⟩ : ByteArray), .bool false, .string (⟨#[]⟩ : ByteArray)] 101 (0, 0)) (by (with_reducible repeat (first | refine blk_drewN ?_ _ | refine blk_drew ?_ | refine blk_alloc ?_ _)); exact BK349.out) hb)
                        have n2_ := Aside0.mk (below_step (by repeat (first | (with_reducible first | exact HB.out | apply below_alloc | apply pw_below_drewN | apply below_drew1 | refine below_set ?_ GE349.out) | exact HB.out)) hb)
                        clear HO_5
                        clear BK349
                        clear HB
                        have HO_5 := n0_
                        have BK349 := n1_
                        have HB := n2_
                        clear n0_ n1_ n2_
                        (try clear hb)
                        (try clear hb2)
                        (try clear hk)
                        (try clear hi)
                        refine hK.out _ _ ⟨((HB.out.cell (World.block_lt_of_cell? w _ hw346_0)).trans hw346_0), ((HB.out.cell (World.block_lt_of_cell? w _ hw346_1)).trans hw346_1), ((HB.out.cell (World.block_lt_of_cell? w _ hw346_2)).trans hw346_2), ((HB.out.cell (World.block_lt_of_cell? w _ hw348_0)).trans hw348_0), ((HB.out.cell (World.block_lt_of_cell? w _ hw348_1)).trans hw348_1), ((HB.out.cell (World.block_lt_of_cell? w _ hw348_2)).trans hw348_2)⟩ (fun hHeld => ?_)
                        clear hK K
                        refine norm_ (a' := ?_) ?_ ?_
                        rotate_left
                        · show Act.put _ (some 24) _ = _
                          simp only [Act.put, List.setIfInBounds_toArray, List.set_cons_zero, List.set_cons_succ, i64_w, i32_w]
                          rfl
                        refine pure_ (i := 11) (N := some 30) (v := ?_) (a' := ?_) #[true, true, true, true, true, true, true, true, true, true, true, true, true, false] rfl rfl (any_of HT_.out (by kernel_rfl)) (fun _ _ _ h => h) (Or.inl ⟨by rfl, ?_⟩) ?_ ?_
                        rotate_left
                        · intro w'
                          go_simp
                          with_reducible rfl
                        rotate_left
                        · simp only [Act.put, List.setIfInBounds_toArray, List.set_cons_zero, List.set_cons_succ, i64_w, i32_w]
                          rfl
                        exact norm_ (by simp only [putAll, Act.put, List.setIfInBounds_toArray, List.set_cons_zero, List.set_cons_succ]) (hCont (gb349) _ ⟨hHeld, (by (with_reducible repeat (first | apply Kd.R_alloc | apply Kd.R_drewN | apply Kd.R_drew)); exact Kd.R_mono HO_5.out (fun _ hk => hk.2)), (by (with_reducible repeat (first | refine blk_drewN ?_ _ | refine blk_drew ?_ | refine blk_alloc ?_ _)); exact BK349.out), GW349.out, GE349.out, (by repeat (first | (with_reducible first | exact HB.out | apply below_alloc | apply pw_below_drewN | apply below_drew1 | refine below_set ?_ GE349.out) | exact HB.out))⟩)
                    rintro gb349 w15 ⟨hS_, h0_, h1_, h2_, h3_, h4_⟩
                    have n0_ : Aside0 (Kd.R k101 101 w15 w.heap.size (fun k_ => k_ ≠ gb349) u5 x5_1) := ⟨h0_⟩
                    have n1_ : Aside0 (w15.heap[gb349]? = some (.cells #[.string (⟨#[]⟩ : ByteArray), .bool false, .string (⟨#[]⟩ : ByteArray)] 101 (0, 0))) := ⟨h1_⟩
                    have n2_ : Aside0 (w.heap.size ≤ gb349) := ⟨h2_⟩
                    have n3_ : Aside0 (w.heap.size ≤ gb349) := ⟨h3_⟩
                    have n4_ : Aside0 (Below w.heap.size w w15) := ⟨h4_⟩
                    clear HO_5
                    clear HB
                    clear h0_ h1_ h2_ h3_ h4_
                    have HO_5 := n0_
                    have BK349 := n1_
                    have GW349 := n2_
                    have GE349 := n3_
                    have HB := n4_
                    clear n0_ n1_ n2_ n3_ n4_
                    have hHeld : w15.cell? (ad346.add ((x6_1).toNat * 3)) = some (.int .i64 ((rd_T139 l0 x6_1).f0)) ∧ w15.cell? ⟨(ad346.add ((x6_1).toNat * 3)).block, (ad346.add ((x6_1).toNat * 3)).off + 1, none⟩ = some (.bool true) ∧ w15.cell? ⟨(ad346.add ((x6_1).toNat * 3)).block, (ad346.add ((x6_1).toNat * 3)).off + 2, none⟩ = some (.string ((rd_T139 l0 x6_1).f2)) ∧ w15.cell? (ad346.add ((x6_1).toNat * 3)) = some (.int .i64 ((rd_T139 l0 x6_1).f0)) ∧ w15.cell? ⟨(ad346.add ((x6_1).toNat * 3)).block, (ad346.add ((x6_1).toNat * 3)).off + 1, none⟩ = some (.bool true) ∧ w15.cell? ⟨(ad346.add ((x6_1).toNat * 3)).block, (ad346.add ((x6_1).toNat * 3)).off + 2, none⟩ = some (.string ((rd_T139 l0 x6_1).f2)) := hS_
                    refine norm_ (a' := ?_) ?_ ?_
                    rotate_left
                    · simp only [putAll, Act.put, List.setIfInBounds_toArray, List.set_cons_zero, List.set_cons_succ]
                      rfl
                    refine one_ (i := 13) (N := none) #[true, true, true, true, true, true, true, true, true, true, true, true, true, true] rfl rfl (one_of HT_.out (by kernel_rfl)) (by decide) (fun K hK => ?_)
                    have hs16 : w15.cell? ⟨gb349, 0, none⟩ = some (.string (⟨#[]⟩ : ByteArray)) := (blk_cell BK349.out 0).trans rfl
                    have hfs16 := blk_frozen BK349.out 0
                    have hs17 : w15.cell? ⟨gb349, 1, none⟩ = some (.bool false) := (blk_cell BK349.out 1).trans rfl
                    have hfs17 := blk_frozen BK349.out 1
                    have hs18 : w15.cell? ⟨gb349, 2, none⟩ = some (.string (⟨#[]⟩ : ByteArray)) := (blk_cell BK349.out 2).trans rfl
                    have hfs18 := blk_frozen BK349.out 2
                    refine skip_ (w1 := ?_) (by rfl) rfl ?_ ?_
                    rotate_left
                    · go_simp
                      rfl
                    refine hK.out _ _ ⟨((cell_far (p := ⟨gb349, _, none⟩) (by first | exact Nat.ne_of_lt (Nat.lt_of_lt_of_le (by have := World.block_lt_of_cell? _ _ hw346_0; first | rwa [add_block] at this | exact this) GW349.out) | (rw [add_block]; exact Nat.ne_of_lt (Nat.lt_of_lt_of_le (by have := World.block_lt_of_cell? _ _ hw346_0; first | rwa [add_block] at this | exact this) GW349.out)) | (show (Addr.add _ _).block ≠ _; rw [add_block]; exact Nat.ne_of_lt (Nat.lt_of_lt_of_le (by have := World.block_lt_of_cell? _ _ hw346_0; first | rwa [add_block] at this | exact this) GW349.out)) | (dsimp only; exact Nat.ne_of_lt (Nat.lt_of_lt_of_le (by have := World.block_lt_of_cell? _ _ hw346_0; first | rwa [add_block] at this | exact this) GW349.out))) _).trans (((cell_far (p := ⟨gb349, _, none⟩) (by first | exact Nat.ne_of_lt (Nat.lt_of_lt_of_le (by have := World.block_lt_of_cell? _ _ hw346_0; first | rwa [add_block] at this | exact this) GW349.out) | (rw [add_block]; exact Nat.ne_of_lt (Nat.lt_of_lt_of_le (by have := World.block_lt_of_cell? _ _ hw346_0; first | rwa [add_block] at this | exact this) GW349.out)) | (show (Addr.add _ _).block ≠ _; rw [add_block]; exact Nat.ne_of_lt (Nat.lt_of_lt_of_le (by have := World.block_lt_of_cell? _ _ hw346_0; first | rwa [add_block] at this | exact this) GW349.out)) | (dsimp only; exact Nat.ne_of_lt (Nat.lt_of_lt_of_le (by have := World.block_lt_of_cell? _ _ hw346_0; first | rwa [add_block] at this | exact this) GW349.out))) _).trans (((cell_far (p := ⟨gb349, _, none⟩) (by first | exact Nat.ne_of_lt (Nat.lt_of_lt_of_le (by have := World.block_lt_of_cell? _ _ hw346_0; first | rwa [add_block] at this | exact this) GW349.out) | (rw [add_block]; exact Nat.ne_of_lt (Nat.lt_of_lt_of_le (by have := World.block_lt_of_cell? _ _ hw346_0; first | rwa [add_block] at this | exact this) GW349.out)) | (show (Addr.add _ _).block ≠ _; rw [add_block]; exact Nat.ne_of_lt (Nat.lt_of_lt_of_le (by have := World.block_lt_of_cell? _ _ hw346_0; first | rwa [add_block] at this | exact this) GW349.out)) | (dsimp only; exact Nat.ne_of_lt (Nat.lt_of_lt_of_le (by have := World.block_lt_of_cell? _ _ hw346_0; first | rwa [add_block] at this | exact this) GW349.out))) _).trans (hHeld.1)))))), ((cell_far (p := ⟨gb349, _, none⟩) (by first | exact Nat.ne_of_lt (Nat.lt_of_lt_of_le (by have := World.block_lt_of_cell? _ _ hw346_1; first | rwa [add_block] at this | exact this) GW349.out) | (rw [add_block]; exact Nat.ne_of_lt (Nat.lt_of_lt_of_le (by have := World.block_lt_of_cell? _ _ hw346_1; first | rwa [add_block] at this | exact this) GW349.out)) | (show (Addr.add _ _).block ≠ _; rw [add_block]; exact Nat.ne_of_lt (Nat.lt_of_lt_of_le (by have := World.block_lt_of_cell? _ _ hw346_1; first | rwa [add_block] at this | exact this) GW349.out)) | (dsimp only; exact Nat.ne_of_lt (Nat.lt_of_lt_of_le (by have := World.block_lt_of_cell? _ _ hw346_1; first | rwa [add_block] at this | exact this) GW349.out))) _).trans (((cell_far (p := ⟨gb349, _, none⟩) (by first | exact Nat.ne_of_lt (Nat.lt_of_lt_of_le (by have := World.block_lt_of_cell? _ _ hw346_1; first | rwa [add_block] at this | exact this) GW349.out) | (rw [add_block]; exact Nat.ne_of_lt (Nat.lt_of_lt_of_le (by have := World.block_lt_of_cell? _ _ hw346_1; first | rwa [add_block] at this | exact this) GW349.out)) | (show (Addr.add _ _).block ≠ _; rw [add_block]; exact Nat.ne_of_lt (Nat.lt_of_lt_of_le (by have := World.block_lt_of_cell? _ _ hw346_1; first | rwa [add_block] at this | exact this) GW349.out)) | (dsimp only; exact Nat.ne_of_lt (Nat.lt_of_lt_of_le (by have := World.block_lt_of_cell? _ _ hw346_1; first | rwa [add_block] at this | exact this) GW349.out))) _).trans (((cell_far (p := ⟨gb349, _, none⟩) (by first | exact Nat.ne_of_lt (Nat.lt_of_lt_of_le (by have := World.block_lt_of_cell? _ _ hw346_1; first | rwa [add_block] at this | exact this) GW349.out) | (rw [add_block]; exact Nat.ne_of_lt (Nat.lt_of_lt_of_le (by have := World.block_lt_of_cell? _ _ hw346_1; first | rwa [add_block] at this | exact this) GW349.out)) | (show (Addr.add _ _).block ≠ _; rw [add_block]; exact Nat.ne_of_lt (Nat.lt_of_lt_of_le (by have := World.block_lt_of_cell? _ _ hw346_1; first | rwa [add_block] at this | exact this) GW349.out)) | (dsimp only; exact Nat.ne_of_lt (Nat.lt_of_lt_of_le (by have := World.block_lt_of_cell? _ _ hw346_1; first | rwa [add_block] at this | exact this) GW349.out))) _).trans (hHeld.2.1)))))), ((cell_far (p := ⟨gb349, _, none⟩) (by first | exact Nat.ne_of_lt (Nat.lt_of_lt_of_le (by have := World.block_lt_of_cell? _ _ hw346_2; first | rwa [add_block] at this | exact this) GW349.out) | (rw [add_block]; exact Nat.ne_of_lt (Nat.lt_of_lt_of_le (by have := World.block_lt_of_cell? _ _ hw346_2; first | rwa [add_block] at this | exact this) GW349.out)) | (show (Addr.add _ _).block ≠ _; rw [add_block]; exact Nat.ne_of_lt (Nat.lt_of_lt_of_le (by have := World.block_lt_of_cell? _ _ hw346_2; first | rwa [add_block] at this | exact this) GW349.out)) | (dsimp only; exact Nat.ne_of_lt (Nat.lt_of_lt_of_le (by have := World.block_lt_of_cell? _ _ hw346_2; first | rwa [add_block] at this | exact this) GW349.out))) _).trans (((cell_far (p := ⟨gb349, _, none⟩) (by first | exact Nat.ne_of_lt (Nat.lt_of_lt_of_le (by have := World.block_lt_of_cell? _ _ hw346_2; first | rwa [add_block] at this | exact this) GW349.out) | (rw [add_block]; exact Nat.ne_of_lt (Nat.lt_of_lt_of_le (by have := World.block_lt_of_cell? _ _ hw346_2; first | rwa [add_block] at this | exact this) GW349.out)) | (show (Addr.add _ _).block ≠ _; rw [add_block]; exact Nat.ne_of_lt (Nat.lt_of_lt_of_le (by have := World.block_lt_of_cell? _ _ hw346_2; first | rwa [add_block] at this | exact this) GW349.out)) | (dsimp only; exact Nat.ne_of_lt (Nat.lt_of_lt_of_le (by have := World.block_lt_of_cell? _ _ hw346_2; first | rwa [add_block] at this | exact this) GW349.out))) _).trans (((cell_far (p := ⟨gb349, _, none⟩) (by first | exact Nat.ne_of_lt (Nat.lt_of_lt_of_le (by have := World.block_lt_of_cell? _ _ hw346_2; first | rwa [add_block] at this | exact this) GW349.out) | (rw [add_block]; exact Nat.ne_of_lt (Nat.lt_of_lt_of_le (by have := World.block_lt_of_cell? _ _ hw346_2; first | rwa [add_block] at this | exact this) GW349.out)) | (show (Addr.add _ _).block ≠ _; rw [add_block]; exact Nat.ne_of_lt (Nat.lt_of_lt_of_le (by have := World.block_lt_of_cell? _ _ hw346_2; first | rwa [add_block] at this | exact this) GW349.out)) | (dsimp only; exact Nat.ne_of_lt (Nat.lt_of_lt_of_le (by have := World.block_lt_of_cell? _ _ hw346_2; first | rwa [add_block] at this | exact this) GW349.out))) _).trans (hHeld.2.2.1)))))), ((cell_far (p := ⟨gb349, _, none⟩) (by first | exact Nat.ne_of_lt (Nat.lt_of_lt_of_le (by have := World.block_lt_of_cell? _ _ hw348_0; first | rwa [add_block] at this | exact this) GW349.out) | (rw [add_block]; exact Nat.ne_of_lt (Nat.lt_of_lt_of_le (by have := World.block_lt_of_cell? _ _ hw348_0; first | rwa [add_block] at this | exact this) GW349.out)) | (show (Addr.add _ _).block ≠ _; rw [add_block]; exact Nat.ne_of_lt (Nat.lt_of_lt_of_le (by have := World.block_lt_of_cell? _ _ hw348_0; first | rwa [add_block] at this | exact this) GW349.out)) | (dsimp only; exact Nat.ne_of_lt (Nat.lt_of_lt_of_le (by have := World.block_lt_of_cell? _ _ hw348_0; first | rwa [add_block] at this | exact this) GW349.out))) _).trans (((cell_far (p := ⟨gb349, _, none⟩) (by first | exact Nat.ne_of_lt (Nat.lt_of_lt_of_le (by have := World.block_lt_of_cell? _ _ hw348_0; first | rwa [add_block] at this | exact this) GW349.out) | (rw [add_block]; exact Nat.ne_of_lt (Nat.lt_of_lt_of_le (by have := World.block_lt_of_cell? _ _ hw348_0; first | rwa [add_block] at this | exact this) GW349.out)) | (show (Addr.add _ _).block ≠ _; rw [add_block]; exact Nat.ne_of_lt (Nat.lt_of_lt_of_le (by have := World.block_lt_of_cell? _ _ hw348_0; first | rwa [add_block] at this | exact this) GW349.out)) | (dsimp only; exact Nat.ne_of_lt (Nat.lt_of_lt_of_le (by have := World.block_lt_of_cell? _ _ hw348_0; first | rwa [add_block] at this | exact this) GW349.out))) _).trans (((cell_far (p := ⟨gb349, _, none⟩) (by first | exact Nat.ne_of_lt (Nat.lt_of_lt_of_le (by have := World.block_lt_of_cell? _ _ hw348_0; first | rwa [add_block] at this | exact this) GW349.out) | (rw [add_block]; exact Nat.ne_of_lt (Nat.lt_of_lt_of_le (by have := World.block_lt_of_cell? _ _ hw348_0; first | rwa [add_block] at this | exact this) GW349.out)) | (show (Addr.add _ _).block ≠ _; rw [add_block]; exact Nat.ne_of_lt (Nat.lt_of_lt_of_le (by have := World.block_lt_of_cell? _ _ hw348_0; first | rwa [add_block] at this | exact this) GW349.out)) | (dsimp only; exact Nat.ne_of_lt (Nat.lt_of_lt_of_le (by have := World.block_lt_of_cell? _ _ hw348_0; first | rwa [add_block] at this | exact this) GW349.out))) _).trans (hHeld.2.2.2.1)))))), ((cell_far (p := ⟨gb349, _, none⟩) (by first | exact Nat.ne_of_lt (Nat.lt_of_lt_of_le (by have := World.block_lt_of_cell? _ _ hw348_1; first | rwa [add_block] at this | exact this) GW349.out) | (rw [add_block]; exact Nat.ne_of_lt (Nat.lt_of_lt_of_le (by have := World.block_lt_of_cell? _ _ hw348_1; first | rwa [add_block] at this | exact this) GW349.out)) | (show (Addr.add _ _).block ≠ _; rw [add_block]; exact Nat.ne_of_lt (Nat.lt_of_lt_of_le (by have := World.block_lt_of_cell? _ _ hw348_1; first | rwa [add_block] at this | exact this) GW349.out)) | (dsimp only; exact Nat.ne_of_lt (Nat.lt_of_lt_of_le (by have := World.block_lt_of_cell? _ _ hw348_1; first | rwa [add_block] at this | exact this) GW349.out))) _).trans (((cell_far (p := ⟨gb349, _, none⟩) (by first | exact Nat.ne_of_lt (Nat.lt_of_lt_of_le (by have := World.block_lt_of_cell? _ _ hw348_1; first | rwa [add_block] at this | exact this) GW349.out) | (rw [add_block]; exact Nat.ne_of_lt (Nat.lt_of_lt_of_le (by have := World.block_lt_of_cell? _ _ hw348_1; first | rwa [add_block] at this | exact this) GW349.out)) | (show (Addr.add _ _).block ≠ _; rw [add_block]; exact Nat.ne_of_lt (Nat.lt_of_lt_of_le (by have := World.block_lt_of_cell? _ _ hw348_1; first | rwa [add_block] at this | exact this) GW349.out)) | (dsimp only; exact Nat.ne_of_lt (Nat.lt_of_lt_of_le (by have := World.block_lt_of_cell? _ _ hw348_1; first | rwa [add_block] at this | exact this) GW349.out))) _).trans (((cell_far (p := ⟨gb349, _, none⟩) (by first | exact Nat.ne_of_lt (Nat.lt_of_lt_of_le (by have := World.block_lt_of_cell? _ _ hw348_1; first | rwa [add_block] at this | exact this) GW349.out) | (rw [add_block]; exact Nat.ne_of_lt (Nat.lt_of_lt_of_le (by have := World.block_lt_of_cell? _ _ hw348_1; first | rwa [add_block] at this | exact this) GW349.out)) | (show (Addr.add _ _).block ≠ _; rw [add_block]; exact Nat.ne_of_lt (Nat.lt_of_lt_of_le (by have := World.block_lt_of_cell? _ _ hw348_1; first | rwa [add_block] at this | exact this) GW349.out)) | (dsimp only; exact Nat.ne_of_lt (Nat.lt_of_lt_of_le (by have := World.block_lt_of_cell? _ _ hw348_1; first | rwa [add_block] at this | exact this) GW349.out))) _).trans (hHeld.2.2.2.2.1)))))), ((cell_far (p := ⟨gb349, _, none⟩) (by first | exact Nat.ne_of_lt (Nat.lt_of_lt_of_le (by have := World.block_lt_of_cell? _ _ hw348_2; first | rwa [add_block] at this | exact this) GW349.out) | (rw [add_block]; exact Nat.ne_of_lt (Nat.lt_of_lt_of_le (by have := World.block_lt_of_cell? _ _ hw348_2; first | rwa [add_block] at this | exact this) GW349.out)) | (show (Addr.add _ _).block ≠ _; rw [add_block]; exact Nat.ne_of_lt (Nat.lt_of_lt_of_le (by have := World.block_lt_of_cell? _ _ hw348_2; first | rwa [add_block] at this | exact this) GW349.out)) | (dsimp only; exact Nat.ne_of_lt (Nat.lt_of_lt_of_le (by have := World.block_lt_of_cell? _ _ hw348_2; first | rwa [add_block] at this | exact this) GW349.out))) _).trans (((cell_far (p := ⟨gb349, _, none⟩) (by first | exact Nat.ne_of_lt (Nat.lt_of_lt_of_le (by have := World.block_lt_of_cell? _ _ hw348_2; first | rwa [add_block] at this | exact this) GW349.out) | (rw [add_block]; exact Nat.ne_of_lt (Nat.lt_of_lt_of_le (by have := World.block_lt_of_cell? _ _ hw348_2; first | rwa [add_block] at this | exact this) GW349.out)) | (show (Addr.add _ _).block ≠ _; rw [add_block]; exact Nat.ne_of_lt (Nat.lt_of_lt_of_le (by have := World.block_lt_of_cell? _ _ hw348_2; first | rwa [add_block] at this | exact this) GW349.out)) | (dsimp only; exact Nat.ne_of_lt (Nat.lt_of_lt_of_le (by have := World.block_lt_of_cell? _ _ hw348_2; first | rwa [add_block] at this | exact this) GW349.out))) _).trans (((cell_far (p := ⟨gb349, _, none⟩) (by first | exact Nat.ne_of_lt (Nat.lt_of_lt_of_le (by have := World.block_lt_of_cell? _ _ hw348_2; first | rwa [add_block] at this | exact this) GW349.out) | (rw [add_block]; exact Nat.ne_of_lt (Nat.lt_of_lt_of_le (by have := World.block_lt_of_cell? _ _ hw348_2; first | rwa [add_block] at this | exact this) GW349.out)) | (show (Addr.add _ _).block ≠ _; rw [add_block]; exact Nat.ne_of_lt (Nat.lt_of_lt_of_le (by have := World.block_lt_of_cell? _ _ hw348_2; first | rwa [add_block] at this | exact this) GW349.out)) | (dsimp only; exact Nat.ne_of_lt (Nat.lt_of_lt_of_le (by have := World.block_lt_of_cell? _ _ hw348_2; first | rwa [add_block] at this | exact this) GW349.out))) _).trans (hHeld.2.2.2.2.2))))))⟩ (fun hHeld => ?_)
                    clear hK K
                    refine done_ (done_of HT_.out (by kernel_rfl)) ?_
                    have hcz19_0 : w15.cell? ⟨gb349, 0, none⟩ = some (.string (⟨#[]⟩ : ByteArray)) := (blk_cell BK349.out 0).trans rfl
                    have hcz19_1 : w15.cell? ⟨gb349, 1, none⟩ = some (.bool false) := (blk_cell BK349.out 1).trans rfl
                    have hcz19_2 : w15.cell? ⟨gb349, 2, none⟩ = some (.string (⟨#[]⟩ : ByteArray)) := (blk_cell BK349.out 2).trans rfl
                    have hfz19_0 := blk_frozen BK349.out 0
                    have hfz19_1 := blk_frozen BK349.out 1
                    have hfz19_2 := blk_frozen BK349.out 2
                    try go_wp2_with (first | ((with_reducible refine gate_builtin (b := .append) (xs := #[.tmp 47, .tmp 49]) rfl ?_); at_builtin; refine Kd.R_append k101 (w0 := w) w.heap.size rfl (.tmp 47) (.tmp 49) 40 101 (.agg #[(.string ⟨#[]⟩), (.bool false), (.string ⟨#[]⟩)]) 40 rfl Tryd.underlying40 info101 rfl (by decide) (by omega) u5 x5_1 (⟨t347, true, (⟨#[]⟩ : ByteArray)⟩ : S101) [.string t347, .bool true, .string (⟨#[]⟩ : ByteArray)] (fun k_ => k_ ≠ gb349) (fun _ => False) rfl (by first | (go_simp; done) | (go_simp; rfl)) ?aP (fun _ hk => hk.elim) ?aF ?aO ?aB ?aS ?aL ?_; (case aP => exact k101_mkM _ _ _ (⟨t347, true, (⟨#[]⟩ : ByteArray)⟩ : S101)); (case aB => exact (by repeat (first | (with_reducible first | exact HB.out | apply below_alloc | apply pw_below_drewN | apply below_drew1 | refine below_set ?_ GE349.out) | exact HB.out))); (case aF => exact (fun k_ hk => Kd.freshB (g := gb349) (o := .cells #[.string t347, .bool true, .string (⟨#[]⟩ : ByteArray)] 101 (0, 0)) (by (with_reducible repeat (first | refine blk_drewN ?_ _ | refine blk_drew ?_ | refine blk_alloc ?_ _)); refine blk_put (cs := #[.string t347, .bool true, .string (⟨#[]⟩ : ByteArray)]) ?_ 2 _ rfl; (with_reducible repeat (first | refine blk_drewN ?_ _ | refine blk_drew ?_ | refine blk_alloc ?_ _)); refine blk_put (cs := #[.string t347, .bool false, .string (⟨#[]⟩ : ByteArray)]) ?_ 1 _ rfl; (with_reducible repeat (first | refine blk_drewN ?_ _ | refine blk_drew ?_ | refine blk_alloc ?_ _)); refine blk_put (cs := #[.string (⟨#[]⟩ : ByteArray), .bool false, .string (⟨#[]⟩ : ByteArray)]) ?_ 0 _ rfl; (with_reducible repeat (first | refine blk_drewN ?_ _ | refine blk_drew ?_ | refine blk_alloc ?_ _)); exact BK349.out) k_ hk)); (case aO => exact (by (with_reducible repeat (first | apply Kd.R_alloc | apply Kd.R_drewN | apply Kd.R_drew)); exact Kd.R_mono (Kd.R_far (p := ⟨gb349, 2, none⟩) (Kd.R_far (p := ⟨gb349, 1, none⟩) (Kd.R_far (p := ⟨gb349, 0, none⟩) (Kd.R_mono HO_5.out (fun k_ hk => (⟨hk, hk⟩ : _ ∧ k_ ≠ gb349))) (fun _ hk => hk.2) (.string t347)) (fun _ hk => hk.2) (.bool true)) (fun _ hk => hk.2) (.string (⟨#[]⟩ : ByteArray))) (fun _ hk => hk.1))); (case aS => exact (below_size (by repeat (first | (with_reducible first | exact HB.out | apply below_alloc | apply pw_below_drewN | apply below_drew1 | refine below_set ?_ GE349.out) | exact HB.out)))); (case aL => have := LMc11.out; omega); intro v351 w20 ho hb hg hat; rw [← Ny350.out] at ho; have n0_ := Aside0.mk (blk_grown (g := gb349) (o := .cells #[.string t347, .bool true, .string (⟨#[]⟩ : ByteArray)] 101 (0, 0)) (by (with_reducible repeat (first | refine blk_drewN ?_ _ | refine blk_drew ?_ | refine blk_alloc ?_ _)); refine blk_put (cs := #[.string t347, .bool true, .string (⟨#[]⟩ : ByteArray)]) ?_ 2 _ rfl; (with_reducible repeat (first | refine blk_drewN ?_ _ | refine blk_drew ?_ | refine blk_alloc ?_ _)); refine blk_put (cs := #[.string t347, .bool false, .string (⟨#[]⟩ : ByteArray)]) ?_ 1 _ rfl; (with_reducible repeat (first | refine blk_drewN ?_ _ | refine blk_drew ?_ | refine blk_alloc ?_ _)); refine blk_put (cs := #[.string (⟨#[]⟩ : ByteArray), .bool false, .string (⟨#[]⟩ : ByteArray)]) ?_ 0 _ rfl; (with_reducible repeat (first | refine blk_drewN ?_ _ | refine blk_drew ?_ | refine blk_alloc ?_ _)); exact BK349.out) hg (Kd.R_away HO_5.out (fun _ hk => hk))); have n1_ := Aside0.mk (hb); have n2_ := Aside0.mk (ho); clear BK349; clear HB; clear HO_5; have BK349 := n0_; have HB := n1_; have HO352 := n2_; clear n0_ n1_ n2_; clear ho hb hg hat))
                    go_roundg kj2
                    case measure => have := HK1.out; have := HJ2.out; omega
                    case rel => exact ⟨(y350), (wrap64 (x6_1 + 1)), (by first | rfl | (simp; done) | (simp [*]; done)), H', ⟨by have := HK1.out; have := HJ2.out; omega⟩, ⟨by (with_reducible repeat (first | apply Kd.R_alloc | apply Kd.R_drewN | apply Kd.R_drew)); exact Kd.R_mono HO352.out (fun _ hk => trivial)⟩, ⟨by repeat (first | (with_reducible first | exact HB.out | apply below_alloc | apply pw_below_drewN | apply below_drew1 | refine below_set ?_ GE349.out) | exact HB.out)⟩⟩
                  · rw [if_neg c11] at H
                    exact absurd H (by simp)
                · replace c10 := Bool.eq_false_iff.mpr c10
                  subst c10
                  have H1 : ((cachepothand_Val.f kj2 ((rd_T139 l0 x6_1).f2) (wrap64 (Int.tdiv ((rd_T139 l0 x6_1).f0) 12))).bind fun t355 => (if x5_1.length < 3518437208883 then (cachepothand_Writes.l0 kj2 l0 a1 (x5_1 ++ [(⟨t347, false, t355⟩ : S101)]) (wrap64 (x6_1 + 1))) else (none))) = some r := by rw [if_neg (show ¬ (false = true) by decide)] at H; exact H
                  clear H
                  have H := H1
                  clear H1
                  replace H := Option.bind_eq_some_iff.mp H
                  obtain ⟨t355, A210, H⟩ := H
                  replace H : (if x5_1.length < 3518437208883 then (cachepothand_Writes.l0 kj2 l0 a1 (x5_1 ++ [(⟨t347, false, t355⟩ : S101)]) (wrap64 (x6_1 + 1))) else (none)) = some r := H
                  have A21 := Aside0.mk A210
                  clear A210
                  by_cases c22 : x5_1.length < 3518437208883
                  · rw [if_pos c22] at H
                    have LMc22 := Aside0.mk c22
                    clear c22
                    obtain ⟨y356, hy356⟩ : ∃ y_ : List (S101), y_ = (x5_1 ++ [(⟨t347, false, t355⟩ : S101)]) := ⟨_, rfl⟩
                    replace H : (cachepothand_Writes.l0 kj2 l0 a1 y356 (wrap64 (x6_1 + 1))) = some r := by first | (rw [hy356]; with_reducible exact H) | (have H2_ := (Option.bind_some _ _).symm.trans H; rw [hy356]; with_reducible exact H2_) | (have H2_ := (Option.bind_some _ _).symm.trans H; with_reducible exact H2_) | with_reducible exact H | (rw [hy356]; exact H) | exact H
                    have Ny356 := Aside0.mk hy356
                    clear hy356
                    have H' := Aside0.mk H
                    clear H
                    try go_wp2
                    have n0_ := Aside0.mk (Kd.R_drew HO_5.out)
                    have n1_ := Aside0.mk (below_drew1 HB.out)
                    clear HO_5
                    clear HB
                    have HO_5 := n0_
                    have HB := n1_
                    clear n0_ n1_
                    have p346 : 0 ≤ (x6_1 : Int) := of_decide_eq_true (by first | (with_reducible assumption) | assumption)
                    have q346 : x6_1 < (l0.length : Int) := of_decide_eq_true (by first | (with_reducible assumption) | assumption)
                    obtain ⟨ad346, e346, hx346_0, hx346_1, hx346_2⟩ := at_T139 HR0.out x6_1 p346 q346
                    have hw346_2 := hx346_2
                    have hw346_1 := hx346_1
                    have hw346_0 := hx346_0
                    (try rw [← Nbq9.out] at hx346_1)
                    (try rw [← Nbq9.out] at hw346_1)
                    cases e346
                    replace hx346_0 := (HB.out.cell (World.block_lt_of_cell? w _ hx346_0)).trans hx346_0
                    replace hx346_1 := (HB.out.cell (World.block_lt_of_cell? w _ hx346_1)).trans hx346_1
                    replace hx346_2 := (HB.out.cell (World.block_lt_of_cell? w _ hx346_2)).trans hx346_2
                    replace p346 := eq_true p346
                    replace q346 := eq_true q346
                    have p348 : 0 ≤ (x6_1 : Int) := of_decide_eq_true (by first | (with_reducible assumption) | assumption)
                    have q348 : x6_1 < (l0.length : Int) := of_decide_eq_true (by first | (with_reducible assumption) | assumption)
                    obtain ⟨ad348, e348, hx348_0, hx348_1, hx348_2⟩ := at_T139 HR0.out x6_1 p348 q348
                    have hw348_2 := hx348_2
                    have hw348_1 := hx348_1
                    have hw348_0 := hx348_0
                    (try rw [← Nbq9.out] at hx348_1)
                    (try rw [← Nbq9.out] at hw348_1)
                    obtain rfl : ad346 = ad348 := (by injection e348)
                    replace hx348_0 := (HB.out.cell (World.block_lt_of_cell? w _ hx348_0)).trans hx348_0
                    replace hx348_1 := (HB.out.cell (World.block_lt_of_cell? w _ hx348_1)).trans hx348_1
                    replace hx348_2 := (HB.out.cell (World.block_lt_of_cell? w _ hx348_2)).trans hx348_2
                    replace p348 := eq_true p348
                    replace q348 := eq_true q348
                    refine start_ (n := 14) (S := fun w' => w'.cell? (ad346.add ((x6_1).toNat * 3)) = some (.int .i64 ((rd_T139 l0 x6_1).f0)) ∧ w'.cell? ⟨(ad346.add ((x6_1).toNat * 3)).block, (ad346.add ((x6_1).toNat * 3)).off + 1, none⟩ = some (.bool false) ∧ w'.cell? ⟨(ad346.add ((x6_1).toNat * 3)).block, (ad346.add ((x6_1).toNat * 3)).off + 2, none⟩ = some (.string ((rd_T139 l0 x6_1).f2)) ∧ w'.cell? (ad346.add ((x6_1).toNat * 3)) = some (.int .i64 ((rd_T139 l0 x6_1).f0)) ∧ w'.cell? ⟨(ad346.add ((x6_1).toNat * 3)).block, (ad346.add ((x6_1).toNat * 3)).off + 1, none⟩ = some (.bool false) ∧ w'.cell? ⟨(ad346.add ((x6_1).toNat * 3)).block, (ad346.add ((x6_1).toNat * 3)).off + 2, none⟩ = some (.string ((rd_T139 l0 x6_1).f2))) (ds := []) #[false, false, false, false, false, false, false, false, false, false, false, false, false, false] (by kernel_rfl) rfl rfl ⟨((HB.out.cell (World.block_lt_of_cell? w _ hw346_0)).trans hw346_0), ((HB.out.cell (World.block_lt_of_cell? w _ hw346_1)).trans hw346_1), ((HB.out.cell (World.block_lt_of_cell? w _ hw346_2)).trans hw346_2), ((HB.out.cell (World.block_lt_of_cell? w _ hw348_0)).trans hw348_0), ((HB.out.cell (World.block_lt_of_cell? w _ hw348_1)).trans hw348_1), ((HB.out.cell (World.block_lt_of_cell? w _ hw348_2)).trans hw348_2)⟩ (fun hHeld => ?_); refine with_tabW cachepothand_Writes.tab5 cachepothand_Writes.bits5 (fun HT_ HW_ => ?_)
                    generalize wc.drew = w23 at HO_5 HB hx346_0 hx346_1 hx346_2 hx348_0 hx348_1 hx348_2 hHeld ⊢
                    refine pure_ (i := 0) (N := some 19) (v := ?_) (a' := ?_) #[true, false, false, false, false, false, false, false, false, false, false, false, false, false] rfl rfl (any_of HT_.out (by kernel_rfl)) (fun _ _ _ h => h) (Or.inl ⟨by rfl, ?_⟩) ?_ ?_
                    rotate_left
                    · intro w'
                      go_simp
                      with_reducible rfl
                    rotate_left
                    · simp only [Act.put, List.setIfInBounds_toArray, List.set_cons_zero, List.set_cons_succ, i64_w, i32_w]
                      rfl
                    refine pure_ (i := 1) (N := some 20) (v := ?_) (a' := ?_) #[true, true, false, false, false, false, false, false, false, false, false, false, false, false] rfl rfl (any_of HT_.out (by kernel_rfl)) (fun _ _ _ h => h) (Or.inl ⟨by rfl, ?_⟩) ?_ ?_
                    rotate_left
                    · intro w'
                      go_simp
                      with_reducible rfl
                    rotate_left
                    · simp only [Act.put, List.setIfInBounds_toArray, List.set_cons_zero, List.set_cons_succ, i64_w, i32_w]
                      rfl
                    refine pure_ (i := 2) (N := some 21) (v := ?_) (a' := ?_) #[true, true, true, false, false, false, false, false, false, false, false, false, false, false] rfl rfl (any_of HT_.out (by kernel_rfl)) (fun _ _ _ h => h) (Or.inl ⟨by rfl, ?_⟩) ?_ ?_
                    rotate_left
                    · intro w'
                      go_simp
                      with_reducible rfl
                    rotate_left
                    · simp only [Act.put, List.setIfInBounds_toArray, List.set_cons_zero, List.set_cons_succ, i64_w, i32_w]
                      rfl
                    refine pure_ (i := 3) (N := some 22) (v := ?_) (a' := ?_) #[true, true, true, true, false, false, false, false, false, false, false, false, false, false] rfl rfl (any_of HT_.out (by kernel_rfl)) (fun _ _ _ h => h) (Or.inl ⟨by rfl, ?_⟩) ?_ ?_
                    rotate_left
                    · intro w'
                      go_simp
                      with_reducible rfl
                    rotate_left
                    · simp only [Act.put, List.setIfInBounds_toArray, List.set_cons_zero, List.set_cons_succ, i64_w, i32_w]
                      rfl
                    refine pure_ (i := 6) (N := some 25) (v := ?_) (a' := ?_) #[true, true, true, true, false, false, true, false, false, false, false, false, false, false] rfl rfl (any_of HT_.out (by kernel_rfl)) (fun _ _ _ h => h) (Or.inl ⟨by rfl, ?_⟩) ?_ ?_
                    rotate_left
                    · intro w'
                      go_simp
                      with_reducible rfl
                    rotate_left
                    · simp only [Act.put, List.setIfInBounds_toArray, List.set_cons_zero, List.set_cons_succ, i64_w, i32_w]
                      rfl
                    refine pure_ (i := 7) (N := some 26) (v := ?_) (a' := ?_) #[true, true, true, true, false, false, true, true, false, false, false, false, false, false] rfl rfl (any_of HT_.out (by kernel_rfl)) (fun _ _ _ h => h) (Or.inl ⟨by rfl, ?_⟩) ?_ ?_
                    rotate_left
                    · intro w'
                      go_simp
                      with_reducible rfl
                    rotate_left
                    · simp only [Act.put, List.setIfInBounds_toArray, List.set_cons_zero, List.set_cons_succ, i64_w, i32_w]
                      rfl
                    refine pure_ (i := 8) (N := some 27) (v := ?_) (a' := ?_) #[true, true, true, true, false, false, true, true, true, false, false, false, false, false] rfl rfl (any_of HT_.out (by kernel_rfl)) (fun _ _ _ h => h) (Or.inl ⟨by rfl, ?_⟩) ?_ ?_
                    rotate_left
                    · intro w'
                      go_simp
                      with_reducible rfl
                    rotate_left
                    · simp only [Act.put, List.setIfInBounds_toArray, List.set_cons_zero, List.set_cons_succ, i64_w, i32_w]
                      rfl
                    refine pure_ (i := 9) (N := some 28) (v := ?_) (a' := ?_) #[true, true, true, true, false, false, true, true, true, true, false, false, false, false] rfl rfl (any_of HT_.out (by kernel_rfl)) (fun _ _ _ h => h) (Or.inl ⟨by rfl, ?_⟩) ?_ ?_
                    rotate_left
                    · intro w'
                      go_simp
                      with_reducible rfl
                    rotate_left
                    · simp only [Act.put, List.setIfInBounds_toArray, List.set_cons_zero, List.set_cons_succ, i64_w, i32_w]
                      rfl
                    refine take_ (i := 4) (N := some 23) (v := ?_) (a' := ?_) #[true, true, true, true, true, false, true, true, true, true, false, false, false, false] rfl rfl (take_ofW HT_.out HW_.out (by kernel_rfl)) (fun _ _ _ h => h) (Or.inl ⟨by rfl, ?_⟩) hHeld ?_ ?_
                    rotate_left
                    · rintro w' ⟨s0, s1, s2, s3, s4, s5⟩
                      go_simp
                      with_reducible rfl
                    rotate_left
                    · simp only [Act.put, List.setIfInBounds_toArray, List.set_cons_zero, List.set_cons_succ, i64_w, i32_w]
                      rfl
                    refine take_ (i := 10) (N := some 29) (v := ?_) (a' := ?_) #[true, true, true, true, true, false, true, true, true, true, true, false, false, false] rfl rfl (take_ofW HT_.out HW_.out (by kernel_rfl)) (fun _ _ _ h => h) (Or.inl ⟨by rfl, ?_⟩) hHeld ?_ ?_
                    rotate_left
                    · rintro w' ⟨s0, s1, s2, s3, s4, s5⟩
                      go_simp
                      with_reducible rfl
                    rotate_left
                    · simp only [Act.put, List.setIfInBounds_toArray, List.set_cons_zero, List.set_cons_succ, i64_w, i32_w]
                      rfl
                    refine join_ (σ := Nat) 1 #[true, true, true, true, true, true, true, true, true, true, true, true, true, false] (fun s_ => [(24, .string t347), (7, .pointer (some ⟨s_, 0, none⟩)), (30, .agg #[.string t347, .bool false, .string (⟨#[]⟩ : ByteArray)])]) (fun s_ w' => (w'.cell? (ad346.add ((x6_1).toNat * 3)) = some (.int .i64 ((rd_T139 l0 x6_1).f0)) ∧ w'.cell? ⟨(ad346.add ((x6_1).toNat * 3)).block, (ad346.add ((x6_1).toNat * 3)).off + 1, none⟩ = some (.bool false) ∧ w'.cell? ⟨(ad346.add ((x6_1).toNat * 3)).block, (ad346.add ((x6_1).toNat * 3)).off + 2, none⟩ = some (.string ((rd_T139 l0 x6_1).f2)) ∧ w'.cell? (ad346.add ((x6_1).toNat * 3)) = some (.int .i64 ((rd_T139 l0 x6_1).f0)) ∧ w'.cell? ⟨(ad346.add ((x6_1).toNat * 3)).block, (ad346.add ((x6_1).toNat * 3)).off + 1, none⟩ = some (.bool false) ∧ w'.cell? ⟨(ad346.add ((x6_1).toNat * 3)).block, (ad346.add ((x6_1).toNat * 3)).off + 2, none⟩ = some (.string ((rd_T139 l0 x6_1).f2))) ∧ (Kd.R k101 101 w' w.heap.size (fun k_ => k_ ≠ s_) u5 x5_1) ∧ (w'.heap[s_]? = some (.cells #[.string (⟨#[]⟩ : ByteArray), .bool false, .string (⟨#[]⟩ : ByteArray)] 101 (0, 0))) ∧ (w.heap.size ≤ s_) ∧ (w.heap.size ≤ s_) ∧ (Below w.heap.size w w')) ?_ ?_
                    rotate_left
                    · intro hCont
                      refine two_ (i := 5) (j := 12) (Ni := some 24) (Nj := some 7) #[true, true, true, true, true, true, true, true, true, true, true, false, false, false] #[true, true, true, true, true, false, true, true, true, true, true, false, true, false] rfl rfl rfl rfl (two_of HT_.out (by kernel_rfl)) (by decide) (by decide) (fun K hK => ?_) (fun K hK => ?_)
                      · skip
                        refine goes_ Tryd.func50 (by kernel_rfl) rfl #[.int .i64 ((rd_T139 l0 x6_1).f0)] (by rfl) rfl rfl (by (try simp only [List.map_toArray, List.map_cons, List.map_nil]); first | done | rfl | (simp only [List.length_drop, List.length_take]; rfl)) ?_
                        with_reducible refine (cachepothand_Key.calls ((rd_T139 l0 x6_1).f0) t347 _ A8.out (by first | exact hT | (refine Tabs.below hT ?_; (repeat (first | (with_reducible first | exact HB.out | exact Below.refl _ _ | apply below_alloc | apply pw_below_drewN | apply below_drew1) | exact HB.out))))).mono ?_
                        rintro e w24 ⟨rfl, hb⟩
                        refine ⟨_, rfl, ?_⟩
                        have n0_ := Aside0.mk (Kd.R_below (by (with_reducible repeat (first | apply Kd.R_alloc | apply Kd.R_drewN | apply Kd.R_drew)); exact HO_5.out) hb)
                        have n1_ := Aside0.mk (below_step (by repeat (first | (with_reducible first | exact HB.out | apply below_alloc | apply pw_below_drewN | apply below_drew1) | exact HB.out)) hb)
                        clear HO_5
                        clear HB
                        have HO_5 := n0_
                        have HB := n1_
                        clear n0_ n1_
                        (try clear hb)
                        (try clear hb2)
                        (try clear hk)
                        (try clear hi)
                        refine hK.out _ _ ⟨((HB.out.cell (World.block_lt_of_cell? w _ hw346_0)).trans hw346_0), ((HB.out.cell (World.block_lt_of_cell? w _ hw346_1)).trans hw346_1), ((HB.out.cell (World.block_lt_of_cell? w _ hw346_2)).trans hw346_2), ((HB.out.cell (World.block_lt_of_cell? w _ hw348_0)).trans hw348_0), ((HB.out.cell (World.block_lt_of_cell? w _ hw348_1)).trans hw348_1), ((HB.out.cell (World.block_lt_of_cell? w _ hw348_2)).trans hw348_2)⟩ (fun hHeld => ?_)
                        clear hK K
                        refine norm_ (a' := ?_) ?_ ?_
                        rotate_left
                        · show Act.put _ (some 24) _ = _
                          simp only [Act.put, List.setIfInBounds_toArray, List.set_cons_zero, List.set_cons_succ, i64_w, i32_w]
                          rfl
                        refine pure_ (i := 11) (N := some 30) (v := ?_) (a' := ?_) #[true, true, true, true, true, true, true, true, true, true, true, true, false, false] rfl rfl (any_of HT_.out (by kernel_rfl)) (fun _ _ _ h => h) (Or.inl ⟨by rfl, ?_⟩) ?_ ?_
                        rotate_left
                        · intro w'
                          go_simp
                          with_reducible rfl
                        rotate_left
                        · simp only [Act.put, List.setIfInBounds_toArray, List.set_cons_zero, List.set_cons_succ, i64_w, i32_w]
                          rfl
                        refine one_ (i := 12) (N := some 7) #[true, true, true, true, true, true, true, true, true, true, true, true, true, false] rfl rfl (one_of HT_.out (by kernel_rfl)) (by decide) (fun K hK => ?_)
                        refine box_step ?hg (N := 7) ?hd (cs := #[.string (⟨#[]⟩ : ByteArray), .bool false, .string (⟨#[]⟩ : ByteArray)]) (t := 101) ?hr ?_; (case hd => rfl); (case hg => rfl); (case hr => first | (go_simp; done) | (go_simp; rfl))
                        intro gb349 hg w25 hbox hb
                        have n0_ := Aside0.mk (Kd.R_below (Kd.R_elderB (by (with_reducible repeat (first | apply Kd.R_alloc | apply Kd.R_drewN | apply Kd.R_drew)); exact HO_5.out) gb349 (Nat.le_of_eq hg.symm)) hb)
                        have n1_ := Aside0.mk (below_step (by repeat (first | (with_reducible first | exact HB.out | apply below_alloc | apply pw_below_drewN | apply below_drew1) | exact HB.out)) hb)
                        have n2_ := Aside0.mk (hbox)
                        have n3_ := Aside0.mk ((by rw [hg]; exact (below_size (by repeat (first | (with_reducible first | exact HB.out | apply below_alloc | apply pw_below_drewN | apply below_drew1) | exact HB.out))) : w.heap.size ≤ gb349))
                        have n4_ := Aside0.mk ((by rw [hg]; exact (below_size (by repeat (first | (with_reducible first | exact HB.out | apply below_alloc | apply pw_below_drewN | apply below_drew1) | exact HB.out))) : w.heap.size ≤ gb349))
                        clear HO_5
                        clear HB
                        have HO_5 := n0_
                        have HB := n1_
                        have BK349 := n2_
                        have GW349 := n3_
                        have GE349 := n4_
                        clear n0_ n1_ n2_ n3_ n4_
                        clear hb hbox hg
                        refine hK.out _ _ ⟨((HB.out.cell (World.block_lt_of_cell? w _ hw346_0)).trans hw346_0), ((HB.out.cell (World.block_lt_of_cell? w _ hw346_1)).trans hw346_1), ((HB.out.cell (World.block_lt_of_cell? w _ hw346_2)).trans hw346_2), ((HB.out.cell (World.block_lt_of_cell? w _ hw348_0)).trans hw348_0), ((HB.out.cell (World.block_lt_of_cell? w _ hw348_1)).trans hw348_1), ((HB.out.cell (World.block_lt_of_cell? w _ hw348_2)).trans hw348_2)⟩ (fun hHeld => ?_)
                        clear hK K
                        refine norm_ (a' := ?_) ?_ ?_
                        rotate_left
                        · show Act.put _ (some 7) _ = _
                          simp only [Act.put, List.setIfInBounds_toArray, List.set_cons_zero, List.set_cons_succ, i64_w, i32_w]
                          rfl
                        exact norm_ (by simp only [putAll, Act.put, List.setIfInBounds_toArray, List.set_cons_zero, List.set_cons_succ]) (hCont (gb349) _ ⟨hHeld, (by (with_reducible repeat (first | apply Kd.R_alloc | apply Kd.R_drewN | apply Kd.R_drew)); exact Kd.R_mono HO_5.out (fun _ hk => hk.2)), (by (with_reducible repeat (first | refine blk_drewN ?_ _ | refine blk_drew ?_ | refine blk_alloc ?_ _)); exact BK349.out), GW349.out, GE349.out, (by repeat (first | (with_reducible first | exact HB.out | apply below_alloc | apply pw_below_drewN | apply below_drew1 | refine below_set ?_ GE349.out) | exact HB.out))⟩)
                      · skip
                        refine box_step ?hg (N := 7) ?hd (cs := #[.string (⟨#[]⟩ : ByteArray), .bool false, .string (⟨#[]⟩ : ByteArray)]) (t := 101) ?hr ?_; (case hd => rfl); (case hg => rfl); (case hr => first | (go_simp; done) | (go_simp; rfl))
                        intro gb349 hg w24 hbox hb
                        have n0_ := Aside0.mk (Kd.R_below (Kd.R_elderB (by (with_reducible repeat (first | apply Kd.R_alloc | apply Kd.R_drewN | apply Kd.R_drew)); exact HO_5.out) gb349 (Nat.le_of_eq hg.symm)) hb)
                        have n1_ := Aside0.mk (below_step (by repeat (first | (with_reducible first | exact HB.out | apply below_alloc | apply pw_below_drewN | apply below_drew1) | exact HB.out)) hb)
                        have n2_ := Aside0.mk (hbox)
                        have n3_ := Aside0.mk ((by rw [hg]; exact (below_size (by repeat (first | (with_reducible first | exact HB.out | apply below_alloc | apply pw_below_drewN | apply below_drew1) | exact HB.out))) : w.heap.size ≤ gb349))
                        have n4_ := Aside0.mk ((by rw [hg]; exact (below_size (by repeat (first | (with_reducible first | exact HB.out | apply below_alloc | apply pw_below_drewN | apply below_drew1) | exact HB.out))) : w.heap.size ≤ gb349))
                        clear HO_5
                        clear HB
                        have HO_5 := n0_
                        have HB := n1_
                        have BK349 := n2_
                        have GW349 := n3_
                        have GE349 := n4_
                        clear n0_ n1_ n2_ n3_ n4_
                        clear hb hbox hg
                        refine hK.out _ _ ⟨((HB.out.cell (World.block_lt_of_cell? w _ hw346_0)).trans hw346_0), ((HB.out.cell (World.block_lt_of_cell? w _ hw346_1)).trans hw346_1), ((HB.out.cell (World.block_lt_of_cell? w _ hw346_2)).trans hw346_2), ((HB.out.cell (World.block_lt_of_cell? w _ hw348_0)).trans hw348_0), ((HB.out.cell (World.block_lt_of_cell? w _ hw348_1)).trans hw348_1), ((HB.out.cell (World.block_lt_of_cell? w _ hw348_2)).trans hw348_2)⟩ (fun hHeld => ?_)
                        clear hK K
                        refine norm_ (a' := ?_) ?_ ?_
                        rotate_left
                        · show Act.put _ (some 7) _ = _
                          simp only [Act.put, List.setIfInBounds_toArray, List.set_cons_zero, List.set_cons_succ, i64_w, i32_w]
                          rfl
                        refine one_ (i := 5) (N := some 24) #[true, true, true, true, true, true, true, true, true, true, true, false, true, false] rfl rfl (one_of HT_.out (by kernel_rfl)) (by decide) (fun K hK => ?_)
                        refine goes_ Tryd.func50 (by kernel_rfl) rfl #[.int .i64 ((rd_T139 l0 x6_1).f0)] (by rfl) rfl rfl (by (try simp only [List.map_toArray, List.map_cons, List.map_nil]); first | done | rfl | (simp only [List.length_drop, List.length_take]; rfl)) ?_
                        with_reducible refine (cachepothand_Key.calls ((rd_T139 l0 x6_1).f0) t347 _ A8.out (by first | exact hT | (refine Tabs.below hT ?_; (repeat (first | (with_reducible first | exact HB.out | exact Below.refl _ _ | apply below_alloc | apply pw_below_drewN | apply below_drew1) | exact HB.out))))).mono ?_
                        rintro e w25 ⟨rfl, hb⟩
                        refine ⟨_, rfl, ?_⟩
                        have n0_ := Aside0.mk (Kd.R_below (by (with_reducible repeat (first | apply Kd.R_alloc | apply Kd.R_drewN | apply Kd.R_drew)); exact HO_5.out) hb)
                        have n1_ := Aside0.mk (blk_below (g := gb349) (o := .cells #[.string (⟨#[]⟩ : ByteArray), .bool false, .string (⟨#[]⟩ : ByteArray)] 101 (0, 0)) (by (with_reducible repeat (first | refine blk_drewN ?_ _ | refine blk_drew ?_ | refine blk_alloc ?_ _)); exact BK349.out) hb)
                        have n2_ := Aside0.mk (below_step (by repeat (first | (with_reducible first | exact HB.out | apply below_alloc | apply pw_below_drewN | apply below_drew1 | refine below_set ?_ GE349.out) | exact HB.out)) hb)
                        clear HO_5
                        clear BK349
                        clear HB
                        have HO_5 := n0_
                        have BK349 := n1_
                        have HB := n2_
                        clear n0_ n1_ n2_
                        (try clear hb)
                        (try clear hb2)
                        (try clear hk)
                        (try clear hi)
                        refine hK.out _ _ ⟨((HB.out.cell (World.block_lt_of_cell? w _ hw346_0)).trans hw346_0), ((HB.out.cell (World.block_lt_of_cell? w _ hw346_1)).trans hw346_1), ((HB.out.cell (World.block_lt_of_cell? w _ hw346_2)).trans hw346_2), ((HB.out.cell (World.block_lt_of_cell? w _ hw348_0)).trans hw348_0), ((HB.out.cell (World.block_lt_of_cell? w _ hw348_1)).trans hw348_1), ((HB.out.cell (World.block_lt_of_cell? w _ hw348_2)).trans hw348_2)⟩ (fun hHeld => ?_)
                        clear hK K
                        refine norm_ (a' := ?_) ?_ ?_
                        rotate_left
                        · show Act.put _ (some 24) _ = _
                          simp only [Act.put, List.setIfInBounds_toArray, List.set_cons_zero, List.set_cons_succ, i64_w, i32_w]
                          rfl
                        refine pure_ (i := 11) (N := some 30) (v := ?_) (a' := ?_) #[true, true, true, true, true, true, true, true, true, true, true, true, true, false] rfl rfl (any_of HT_.out (by kernel_rfl)) (fun _ _ _ h => h) (Or.inl ⟨by rfl, ?_⟩) ?_ ?_
                        rotate_left
                        · intro w'
                          go_simp
                          with_reducible rfl
                        rotate_left
                        · simp only [Act.put, List.setIfInBounds_toArray, List.set_cons_zero, List.set_cons_succ, i64_w, i32_w]
                          rfl
                        exact norm_ (by simp only [putAll, Act.put, List.setIfInBounds_toArray, List.set_cons_zero, List.set_cons_succ]) (hCont (gb349) _ ⟨hHeld, (by (with_reducible repeat (first | apply Kd.R_alloc | apply Kd.R_drewN | apply Kd.R_drew)); exact Kd.R_mono HO_5.out (fun _ hk => hk.2)), (by (with_reducible repeat (first | refine blk_drewN ?_ _ | refine blk_drew ?_ | refine blk_alloc ?_ _)); exact BK349.out), GW349.out, GE349.out, (by repeat (first | (with_reducible first | exact HB.out | apply below_alloc | apply pw_below_drewN | apply below_drew1 | refine below_set ?_ GE349.out) | exact HB.out))⟩)
                    rintro gb349 w26 ⟨hS_, h0_, h1_, h2_, h3_, h4_⟩
                    have n0_ : Aside0 (Kd.R k101 101 w26 w.heap.size (fun k_ => k_ ≠ gb349) u5 x5_1) := ⟨h0_⟩
                    have n1_ : Aside0 (w26.heap[gb349]? = some (.cells #[.string (⟨#[]⟩ : ByteArray), .bool false, .string (⟨#[]⟩ : ByteArray)] 101 (0, 0))) := ⟨h1_⟩
                    have n2_ : Aside0 (w.heap.size ≤ gb349) := ⟨h2_⟩
                    have n3_ : Aside0 (w.heap.size ≤ gb349) := ⟨h3_⟩
                    have n4_ : Aside0 (Below w.heap.size w w26) := ⟨h4_⟩
                    clear HO_5
                    clear HB
                    clear h0_ h1_ h2_ h3_ h4_
                    have HO_5 := n0_
                    have BK349 := n1_
                    have GW349 := n2_
                    have GE349 := n3_
                    have HB := n4_
                    clear n0_ n1_ n2_ n3_ n4_
                    have hHeld : w26.cell? (ad346.add ((x6_1).toNat * 3)) = some (.int .i64 ((rd_T139 l0 x6_1).f0)) ∧ w26.cell? ⟨(ad346.add ((x6_1).toNat * 3)).block, (ad346.add ((x6_1).toNat * 3)).off + 1, none⟩ = some (.bool false) ∧ w26.cell? ⟨(ad346.add ((x6_1).toNat * 3)).block, (ad346.add ((x6_1).toNat * 3)).off + 2, none⟩ = some (.string ((rd_T139 l0 x6_1).f2)) ∧ w26.cell? (ad346.add ((x6_1).toNat * 3)) = some (.int .i64 ((rd_T139 l0 x6_1).f0)) ∧ w26.cell? ⟨(ad346.add ((x6_1).toNat * 3)).block, (ad346.add ((x6_1).toNat * 3)).off + 1, none⟩ = some (.bool false) ∧ w26.cell? ⟨(ad346.add ((x6_1).toNat * 3)).block, (ad346.add ((x6_1).toNat * 3)).off + 2, none⟩ = some (.string ((rd_T139 l0 x6_1).f2)) := hS_
                    refine norm_ (a' := ?_) ?_ ?_
                    rotate_left
                    · simp only [putAll, Act.put, List.setIfInBounds_toArray, List.set_cons_zero, List.set_cons_succ]
                      rfl
                    refine one_ (i := 13) (N := none) #[true, true, true, true, true, true, true, true, true, true, true, true, true, true] rfl rfl (one_of HT_.out (by kernel_rfl)) (by decide) (fun K hK => ?_)
                    have hs27 : w26.cell? ⟨gb349, 0, none⟩ = some (.string (⟨#[]⟩ : ByteArray)) := (blk_cell BK349.out 0).trans rfl
                    have hfs27 := blk_frozen BK349.out 0
                    have hs28 : w26.cell? ⟨gb349, 1, none⟩ = some (.bool false) := (blk_cell BK349.out 1).trans rfl
                    have hfs28 := blk_frozen BK349.out 1
                    have hs29 : w26.cell? ⟨gb349, 2, none⟩ = some (.string (⟨#[]⟩ : ByteArray)) := (blk_cell BK349.out 2).trans rfl
                    have hfs29 := blk_frozen BK349.out 2
                    refine skip_ (w1 := ?_) (by rfl) rfl ?_ ?_
                    rotate_left
                    · go_simp
                      rfl
                    refine hK.out _ _ ⟨((cell_far (p := ⟨gb349, _, none⟩) (by first | exact Nat.ne_of_lt (Nat.lt_of_lt_of_le (by have := World.block_lt_of_cell? _ _ hw346_0; first | rwa [add_block] at this | exact this) GW349.out) | (rw [add_block]; exact Nat.ne_of_lt (Nat.lt_of_lt_of_le (by have := World.block_lt_of_cell? _ _ hw346_0; first | rwa [add_block] at this | exact this) GW349.out)) | (show (Addr.add _ _).block ≠ _; rw [add_block]; exact Nat.ne_of_lt (Nat.lt_of_lt_of_le (by have := World.block_lt_of_cell? _ _ hw346_0; first | rwa [add_block] at this | exact this) GW349.out)) | (dsimp only; exact Nat.ne_of_lt (Nat.lt_of_lt_of_le (by have := World.block_lt_of_cell? _ _ hw346_0; first | rwa [add_block] at this | exact this) GW349.out))) _).trans (((cell_far (p := ⟨gb349, _, none⟩) (by first | exact Nat.ne_of_lt (Nat.lt_of_lt_of_le (by have := World.block_lt_of_cell? _ _ hw346_0; first | rwa [add_block] at this | exact this) GW349.out) | (rw [add_block]; exact Nat.ne_of_lt (Nat.lt_of_lt_of_le (by have := World.block_lt_of_cell? _ _ hw346_0; first | rwa [add_block] at this | exact this) GW349.out)) | (show (Addr.add _ _).block ≠ _; rw [add_block]; exact Nat.ne_of_lt (Nat.lt_of_lt_of_le (by have := World.block_lt_of_cell? _ _ hw346_0; first | rwa [add_block] at this | exact this) GW349.out)) | (dsimp only; exact Nat.ne_of_lt (Nat.lt_of_lt_of_le (by have := World.block_lt_of_cell? _ _ hw346_0; first | rwa [add_block] at this | exact this) GW349.out))) _).trans (((cell_far (p := ⟨gb349, _, none⟩) (by first | exact Nat.ne_of_lt (Nat.lt_of_lt_of_le (by have := World.block_lt_of_cell? _ _ hw346_0; first | rwa [add_block] at this | exact this) GW349.out) | (rw [add_block]; exact Nat.ne_of_lt (Nat.lt_of_lt_of_le (by have := World.block_lt_of_cell? _ _ hw346_0; first | rwa [add_block] at this | exact this) GW349.out)) | (show (Addr.add _ _).block ≠ _; rw [add_block]; exact Nat.ne_of_lt (Nat.lt_of_lt_of_le (by have := World.block_lt_of_cell? _ _ hw346_0; first | rwa [add_block] at this | exact this) GW349.out)) | (dsimp only; exact Nat.ne_of_lt (Nat.lt_of_lt_of_le (by have := World.block_lt_of_cell? _ _ hw346_0; first | rwa [add_block] at this | exact this) GW349.out))) _).trans (hHeld.1)))))), ((cell_far (p := ⟨gb349, _, none⟩) (by first | exact Nat.ne_of_lt (Nat.lt_of_lt_of_le (by have := World.block_lt_of_cell? _ _ hw346_1; first | rwa [add_block] at this | exact this) GW349.out) | (rw [add_block]; exact Nat.ne_of_lt (Nat.lt_of_lt_of_le (by have := World.block_lt_of_cell? _ _ hw346_1; first | rwa [add_block] at this | exact this) GW349.out)) | (show (Addr.add _ _).block ≠ _; rw [add_block]; exact Nat.ne_of_lt (Nat.lt_of_lt_of_le (by have := World.block_lt_of_cell? _ _ hw346_1; first | rwa [add_block] at this | exact this) GW349.out)) | (dsimp only; exact Nat.ne_of_lt (Nat.lt_of_lt_of_le (by have := World.block_lt_of_cell? _ _ hw346_1; first | rwa [add_block] at this | exact this) GW349.out))) _).trans (((cell_far (p := ⟨gb349, _, none⟩) (by first | exact Nat.ne_of_lt (Nat.lt_of_lt_of_le (by have := World.block_lt_of_cell? _ _ hw346_1; first | rwa [add_block] at this | exact this) GW349.out) | (rw [add_block]; exact Nat.ne_of_lt (Nat.lt_of_lt_of_le (by have := World.block_lt_of_cell? _ _ hw346_1; first | rwa [add_block] at this | exact this) GW349.out)) | (show (Addr.add _ _).block ≠ _; rw [add_block]; exact Nat.ne_of_lt (Nat.lt_of_lt_of_le (by have := World.block_lt_of_cell? _ _ hw346_1; first | rwa [add_block] at this | exact this) GW349.out)) | (dsimp only; exact Nat.ne_of_lt (Nat.lt_of_lt_of_le (by have := World.block_lt_of_cell? _ _ hw346_1; first | rwa [add_block] at this | exact this) GW349.out))) _).trans (((cell_far (p := ⟨gb349, _, none⟩) (by first | exact Nat.ne_of_lt (Nat.lt_of_lt_of_le (by have := World.block_lt_of_cell? _ _ hw346_1; first | rwa [add_block] at this | exact this) GW349.out) | (rw [add_block]; exact Nat.ne_of_lt (Nat.lt_of_lt_of_le (by have := World.block_lt_of_cell? _ _ hw346_1; first | rwa [add_block] at this | exact this) GW349.out)) | (show (Addr.add _ _).block ≠ _; rw [add_block]; exact Nat.ne_of_lt (Nat.lt_of_lt_of_le (by have := World.block_lt_of_cell? _ _ hw346_1; first | rwa [add_block] at this | exact this) GW349.out)) | (dsimp only; exact Nat.ne_of_lt (Nat.lt_of_lt_of_le (by have := World.block_lt_of_cell? _ _ hw346_1; first | rwa [add_block] at this | exact this) GW349.out))) _).trans (hHeld.2.1)))))), ((cell_far (p := ⟨gb349, _, none⟩) (by first | exact Nat.ne_of_lt (Nat.lt_of_lt_of_le (by have := World.block_lt_of_cell? _ _ hw346_2; first | rwa [add_block] at this | exact this) GW349.out) | (rw [add_block]; exact Nat.ne_of_lt (Nat.lt_of_lt_of_le (by have := World.block_lt_of_cell? _ _ hw346_2; first | rwa [add_block] at this | exact this) GW349.out)) | (show (Addr.add _ _).block ≠ _; rw [add_block]; exact Nat.ne_of_lt (Nat.lt_of_lt_of_le (by have := World.block_lt_of_cell? _ _ hw346_2; first | rwa [add_block] at this | exact this) GW349.out)) | (dsimp only; exact Nat.ne_of_lt (Nat.lt_of_lt_of_le (by have := World.block_lt_of_cell? _ _ hw346_2; first | rwa [add_block] at this | exact this) GW349.out))) _).trans (((cell_far (p := ⟨gb349, _, none⟩) (by first | exact Nat.ne_of_lt (Nat.lt_of_lt_of_le (by have := World.block_lt_of_cell? _ _ hw346_2; first | rwa [add_block] at this | exact this) GW349.out) | (rw [add_block]; exact Nat.ne_of_lt (Nat.lt_of_lt_of_le (by have := World.block_lt_of_cell? _ _ hw346_2; first | rwa [add_block] at this | exact this) GW349.out)) | (show (Addr.add _ _).block ≠ _; rw [add_block]; exact Nat.ne_of_lt (Nat.lt_of_lt_of_le (by have := World.block_lt_of_cell? _ _ hw346_2; first | rwa [add_block] at this | exact this) GW349.out)) | (dsimp only; exact Nat.ne_of_lt (Nat.lt_of_lt_of_le (by have := World.block_lt_of_cell? _ _ hw346_2; first | rwa [add_block] at this | exact this) GW349.out))) _).trans (((cell_far (p := ⟨gb349, _, none⟩) (by first | exact Nat.ne_of_lt (Nat.lt_of_lt_of_le (by have := World.block_lt_of_cell? _ _ hw346_2; first | rwa [add_block] at this | exact this) GW349.out) | (rw [add_block]; exact Nat.ne_of_lt (Nat.lt_of_lt_of_le (by have := World.block_lt_of_cell? _ _ hw346_2; first | rwa [add_block] at this | exact this) GW349.out)) | (show (Addr.add _ _).block ≠ _; rw [add_block]; exact Nat.ne_of_lt (Nat.lt_of_lt_of_le (by have := World.block_lt_of_cell? _ _ hw346_2; first | rwa [add_block] at this | exact this) GW349.out)) | (dsimp only; exact Nat.ne_of_lt (Nat.lt_of_lt_of_le (by have := World.block_lt_of_cell? _ _ hw346_2; first | rwa [add_block] at this | exact this) GW349.out))) _).trans (hHeld.2.2.1)))))), ((cell_far (p := ⟨gb349, _, none⟩) (by first | exact Nat.ne_of_lt (Nat.lt_of_lt_of_le (by have := World.block_lt_of_cell? _ _ hw348_0; first | rwa [add_block] at this | exact this) GW349.out) | (rw [add_block]; exact Nat.ne_of_lt (Nat.lt_of_lt_of_le (by have := World.block_lt_of_cell? _ _ hw348_0; first | rwa [add_block] at this | exact this) GW349.out)) | (show (Addr.add _ _).block ≠ _; rw [add_block]; exact Nat.ne_of_lt (Nat.lt_of_lt_of_le (by have := World.block_lt_of_cell? _ _ hw348_0; first | rwa [add_block] at this | exact this) GW349.out)) | (dsimp only; exact Nat.ne_of_lt (Nat.lt_of_lt_of_le (by have := World.block_lt_of_cell? _ _ hw348_0; first | rwa [add_block] at this | exact this) GW349.out))) _).trans (((cell_far (p := ⟨gb349, _, none⟩) (by first | exact Nat.ne_of_lt (Nat.lt_of_lt_of_le (by have := World.block_lt_of_cell? _ _ hw348_0; first | rwa [add_block] at this | exact this) GW349.out) | (rw [add_block]; exact Nat.ne_of_lt (Nat.lt_of_lt_of_le (by have := World.block_lt_of_cell? _ _ hw348_0; first | rwa [add_block] at this | exact this) GW349.out)) | (show (Addr.add _ _).block ≠ _; rw [add_block]; exact Nat.ne_of_lt (Nat.lt_of_lt_of_le (by have := World.block_lt_of_cell? _ _ hw348_0; first | rwa [add_block] at this | exact this) GW349.out)) | (dsimp only; exact Nat.ne_of_lt (Nat.lt_of_lt_of_le (by have := World.block_lt_of_cell? _ _ hw348_0; first | rwa [add_block] at this | exact this) GW349.out))) _).trans (((cell_far (p := ⟨gb349, _, none⟩) (by first | exact Nat.ne_of_lt (Nat.lt_of_lt_of_le (by have := World.block_lt_of_cell? _ _ hw348_0; first | rwa [add_block] at this | exact this) GW349.out) | (rw [add_block]; exact Nat.ne_of_lt (Nat.lt_of_lt_of_le (by have := World.block_lt_of_cell? _ _ hw348_0; first | rwa [add_block] at this | exact this) GW349.out)) | (show (Addr.add _ _).block ≠ _; rw [add_block]; exact Nat.ne_of_lt (Nat.lt_of_lt_of_le (by have := World.block_lt_of_cell? _ _ hw348_0; first | rwa [add_block] at this | exact this) GW349.out)) | (dsimp only; exact Nat.ne_of_lt (Nat.lt_of_lt_of_le (by have := World.block_lt_of_cell? _ _ hw348_0; first | rwa [add_block] at this | exact this) GW349.out))) _).trans (hHeld.2.2.2.1)))))), ((cell_far (p := ⟨gb349, _, none⟩) (by first | exact Nat.ne_of_lt (Nat.lt_of_lt_of_le (by have := World.block_lt_of_cell? _ _ hw348_1; first | rwa [add_block] at this | exact this) GW349.out) | (rw [add_block]; exact Nat.ne_of_lt (Nat.lt_of_lt_of_le (by have := World.block_lt_of_cell? _ _ hw348_1; first | rwa [add_block] at this | exact this) GW349.out)) | (show (Addr.add _ _).block ≠ _; rw [add_block]; exact Nat.ne_of_lt (Nat.lt_of_lt_of_le (by have := World.block_lt_of_cell? _ _ hw348_1; first | rwa [add_block] at this | exact this) GW349.out)) | (dsimp only; exact Nat.ne_of_lt (Nat.lt_of_lt_of_le (by have := World.block_lt_of_cell? _ _ hw348_1; first | rwa [add_block] at this | exact this) GW349.out))) _).trans (((cell_far (p := ⟨gb349, _, none⟩) (by first | exact Nat.ne_of_lt (Nat.lt_of_lt_of_le (by have := World.block_lt_of_cell? _ _ hw348_1; first | rwa [add_block] at this | exact this) GW349.out) | (rw [add_block]; exact Nat.ne_of_lt (Nat.lt_of_lt_of_le (by have := World.block_lt_of_cell? _ _ hw348_1; first | rwa [add_block] at this | exact this) GW349.out)) | (show (Addr.add _ _).block ≠ _; rw [add_block]; exact Nat.ne_of_lt (Nat.lt_of_lt_of_le (by have := World.block_lt_of_cell? _ _ hw348_1; first | rwa [add_block] at this | exact this) GW349.out)) | (dsimp only; exact Nat.ne_of_lt (Nat.lt_of_lt_of_le (by have := World.block_lt_of_cell? _ _ hw348_1; first | rwa [add_block] at this | exact this) GW349.out))) _).trans (((cell_far (p := ⟨gb349, _, none⟩) (by first | exact Nat.ne_of_lt (Nat.lt_of_lt_of_le (by have := World.block_lt_of_cell? _ _ hw348_1; first | rwa [add_block] at this | exact this) GW349.out) | (rw [add_block]; exact Nat.ne_of_lt (Nat.lt_of_lt_of_le (by have := World.block_lt_of_cell? _ _ hw348_1; first | rwa [add_block] at this | exact this) GW349.out)) | (show (Addr.add _ _).block ≠ _; rw [add_block]; exact Nat.ne_of_lt (Nat.lt_of_lt_of_le (by have := World.block_lt_of_cell? _ _ hw348_1; first | rwa [add_block] at this | exact this) GW349.out)) | (dsimp only; exact Nat.ne_of_lt (Nat.lt_of_lt_of_le (by have := World.block_lt_of_cell? _ _ hw348_1; first | rwa [add_block] at this | exact this) GW349.out))) _).trans (hHeld.2.2.2.2.1)))))), ((cell_far (p := ⟨gb349, _, none⟩) (by first | exact Nat.ne_of_lt (Nat.lt_of_lt_of_le (by have := World.block_lt_of_cell? _ _ hw348_2; first | rwa [add_block] at this | exact this) GW349.out) | (rw [add_block]; exact Nat.ne_of_lt (Nat.lt_of_lt_of_le (by have := World.block_lt_of_cell? _ _ hw348_2; first | rwa [add_block] at this | exact this) GW349.out)) | (show (Addr.add _ _).block ≠ _; rw [add_block]; exact Nat.ne_of_lt (Nat.lt_of_lt_of_le (by have := World.block_lt_of_cell? _ _ hw348_2; first | rwa [add_block] at this | exact this) GW349.out)) | (dsimp only; exact Nat.ne_of_lt (Nat.lt_of_lt_of_le (by have := World.block_lt_of_cell? _ _ hw348_2; first | rwa [add_block] at this | exact this) GW349.out))) _).trans (((cell_far (p := ⟨gb349, _, none⟩) (by first | exact Nat.ne_of_lt (Nat.lt_of_lt_of_le (by have := World.block_lt_of_cell? _ _ hw348_2; first | rwa [add_block] at this | exact this) GW349.out) | (rw [add_block]; exact Nat.ne_of_lt (Nat.lt_of_lt_of_le (by have := World.block_lt_of_cell? _ _ hw348_2; first | rwa [add_block] at this | exact this) GW349.out)) | (show (Addr.add _ _).block ≠ _; rw [add_block]; exact Nat.ne_of_lt (Nat.lt_of_lt_of_le (by have := World.block_lt_of_cell? _ _ hw348_2; first | rwa [add_block] at this | exact this) GW349.out)) | (dsimp only; exact Nat.ne_of_lt (Nat.lt_of_lt_of_le (by have := World.block_lt_of_cell? _ _ hw348_2; first | rwa [add_block] at this | exact this) GW349.out))) _).trans (((cell_far (p := ⟨gb349, _, none⟩) (by first | exact Nat.ne_of_lt (Nat.lt_of_lt_of_le (by have := World.block_lt_of_cell? _ _ hw348_2; first | rwa [add_block] at this | exact this) GW349.out) | (rw [add_block]; exact Nat.ne_of_lt (Nat.lt_of_lt_of_le (by have := World.block_lt_of_cell? _ _ hw348_2; first | rwa [add_block] at this | exact this) GW349.out)) | (show (Addr.add _ _).block ≠ _; rw [add_block]; exact Nat.ne_of_lt (Nat.lt_of_lt_of_le (by have := World.block_lt_of_cell? _ _ hw348_2; first | rwa [add_block] at this | exact this) GW349.out)) | (dsimp only; exact Nat.ne_of_lt (Nat.lt_of_lt_of_le (by have := World.block_lt_of_cell? _ _ hw348_2; first | rwa [add_block] at this | exact this) GW349.out))) _).trans (hHeld.2.2.2.2.2))))))⟩ (fun hHeld => ?_)
                    clear hK K
                    refine done_ (done_of HT_.out (by kernel_rfl)) ?_
                    have hcz30_0 : w26.cell? ⟨gb349, 0, none⟩ = some (.string (⟨#[]⟩ : ByteArray)) := (blk_cell BK349.out 0).trans rfl
                    have hcz30_1 : w26.cell? ⟨gb349, 1, none⟩ = some (.bool false) := (blk_cell BK349.out 1).trans rfl
                    have hcz30_2 : w26.cell? ⟨gb349, 2, none⟩ = some (.string (⟨#[]⟩ : ByteArray)) := (blk_cell BK349.out 2).trans rfl
                    have hfz30_0 := blk_frozen BK349.out 0
                    have hfz30_1 := blk_frozen BK349.out 1
                    have hfz30_2 := blk_frozen BK349.out 2
                    try go_wp2
                    have n0_ : Aside0 (Kd.R k101 101 (((w26.setCell ⟨gb349, 0, none⟩ (.string t347)).setCell ⟨gb349, 1, none⟩ (.bool false)).setCell ⟨gb349, 2, none⟩ (.string (⟨#[]⟩ : ByteArray))) w.heap.size (fun k_ => k_ ≠ gb349) u5 x5_1) := ⟨by (with_reducible repeat (first | apply Kd.R_alloc | apply Kd.R_drewN | apply Kd.R_drew)); exact Kd.R_mono (Kd.R_far (p := ⟨gb349, 2, none⟩) (Kd.R_far (p := ⟨gb349, 1, none⟩) (Kd.R_far (p := ⟨gb349, 0, none⟩) (Kd.R_mono HO_5.out (fun k_ hk => (⟨hk, hk⟩ : _ ∧ k_ ≠ gb349))) (fun _ hk => hk.2) (.string t347)) (fun _ hk => hk.2) (.bool false)) (fun _ hk => hk.2) (.string (⟨#[]⟩ : ByteArray))) (fun _ hk => hk.1)⟩
                    have n1_ : Aside0 ((((w26.setCell ⟨gb349, 0, none⟩ (.string t347)).setCell ⟨gb349, 1, none⟩ (.bool false)).setCell ⟨gb349, 2, none⟩ (.string (⟨#[]⟩ : ByteArray))).heap[gb349]? = some (.cells #[.string t347, .bool false, .string (⟨#[]⟩ : ByteArray)] 101 (0, 0))) := ⟨by (with_reducible repeat (first | refine blk_drewN ?_ _ | refine blk_drew ?_ | refine blk_alloc ?_ _)); refine blk_put (cs := #[.string t347, .bool false, .string (⟨#[]⟩ : ByteArray)]) ?_ 2 _ rfl; (with_reducible repeat (first | refine blk_drewN ?_ _ | refine blk_drew ?_ | refine blk_alloc ?_ _)); refine blk_put (cs := #[.string t347, .bool false, .string (⟨#[]⟩ : ByteArray)]) ?_ 1 _ rfl; (with_reducible repeat (first | refine blk_drewN ?_ _ | refine blk_drew ?_ | refine blk_alloc ?_ _)); refine blk_put (cs := #[.string (⟨#[]⟩ : ByteArray), .bool false, .string (⟨#[]⟩ : ByteArray)]) ?_ 0 _ rfl; (with_reducible repeat (first | refine blk_drewN ?_ _ | refine blk_drew ?_ | refine blk_alloc ?_ _)); exact BK349.out⟩
                    have n2_ : Aside0 (Below w.heap.size w (((w26.setCell ⟨gb349, 0, none⟩ (.string t347)).setCell ⟨gb349, 1, none⟩ (.bool false)).setCell ⟨gb349, 2, none⟩ (.string (⟨#[]⟩ : ByteArray)))) := ⟨by repeat (first | (with_reducible first | exact HB.out | apply below_alloc | apply pw_below_drewN | apply below_drew1 | refine below_set ?_ GE349.out) | exact HB.out)⟩
                    (try clear HO_5)
                    (try clear BK349)
                    (try clear HB)
                    generalize (((w26.setCell ⟨gb349, 0, none⟩ (.string t347)).setCell ⟨gb349, 1, none⟩ (.bool false)).setCell ⟨gb349, 2, none⟩ (.string (⟨#[]⟩ : ByteArray))) = w31 at n0_ n1_ n2_ ⊢
                    have HO_5 := n0_
                    have BK349 := n1_
                    have HB := n2_
                    clear n0_ n1_ n2_
                    have n0_ := Aside0.mk (Kd.R_drew HO_5.out)
                    have n1_ := Aside0.mk (blk_drew BK349.out)
                    have n2_ := Aside0.mk (below_drew1 HB.out)
                    clear HO_5
                    clear BK349
                    clear HB
                    have HO_5 := n0_
                    have BK349 := n1_
                    have HB := n2_
                    clear n0_ n1_ n2_
                    have p353 : 0 ≤ (x6_1 : Int) := of_decide_eq_true (by first | (with_reducible assumption) | assumption)
                    have q353 : x6_1 < (l0.length : Int) := of_decide_eq_true (by first | (with_reducible assumption) | assumption)
                    obtain ⟨ad353, e353, hx353_0, hx353_1, hx353_2⟩ := at_T139 HR0.out x6_1 p353 q353
                    have hw353_2 := hx353_2
                    have hw353_1 := hx353_1
                    have hw353_0 := hx353_0
                    (try rw [← Nbq9.out] at hx353_1)
                    (try rw [← Nbq9.out] at hw353_1)
                    obtain rfl : ad346 = ad353 := (by injection e353)
                    replace hx353_0 := (HB.out.cell (World.block_lt_of_cell? w _ hx353_0)).trans hx353_0
                    replace hx353_1 := (HB.out.cell (World.block_lt_of_cell? w _ hx353_1)).trans hx353_1
                    replace hx353_2 := (HB.out.cell (World.block_lt_of_cell? w _ hx353_2)).trans hx353_2
                    replace p353 := eq_true p353
                    replace q353 := eq_true q353
                    have p354 : 0 ≤ (x6_1 : Int) := of_decide_eq_true (by first | (with_reducible assumption) | assumption)
                    have q354 : x6_1 < (l0.length : Int) := of_decide_eq_true (by first | (with_reducible assumption) | assumption)
                    obtain ⟨ad354, e354, hx354_0, hx354_1, hx354_2⟩ := at_T139 HR0.out x6_1 p354 q354
                    have hw354_2 := hx354_2
                    have hw354_1 := hx354_1
                    have hw354_0 := hx354_0
                    (try rw [← Nbq9.out] at hx354_1)
                    (try rw [← Nbq9.out] at hw354_1)
                    obtain rfl : ad346 = ad354 := (by injection e354)
                    replace hx354_0 := (HB.out.cell (World.block_lt_of_cell? w _ hx354_0)).trans hx354_0
                    replace hx354_1 := (HB.out.cell (World.block_lt_of_cell? w _ hx354_1)).trans hx354_1
                    replace hx354_2 := (HB.out.cell (World.block_lt_of_cell? w _ hx354_2)).trans hx354_2
                    replace p354 := eq_true p354
                    replace q354 := eq_true q354
                    refine start_ (n := 14) (S := fun w' => w'.cell? (ad346.add ((x6_1).toNat * 3)) = some (.int .i64 ((rd_T139 l0 x6_1).f0)) ∧ w'.cell? ⟨(ad346.add ((x6_1).toNat * 3)).block, (ad346.add ((x6_1).toNat * 3)).off + 1, none⟩ = some (.bool (false)) ∧ w'.cell? ⟨(ad346.add ((x6_1).toNat * 3)).block, (ad346.add ((x6_1).toNat * 3)).off + 2, none⟩ = some (.string ((rd_T139 l0 x6_1).f2)) ∧ w'.cell? (ad346.add ((x6_1).toNat * 3)) = some (.int .i64 ((rd_T139 l0 x6_1).f0)) ∧ w'.cell? ⟨(ad346.add ((x6_1).toNat * 3)).block, (ad346.add ((x6_1).toNat * 3)).off + 1, none⟩ = some (.bool (false)) ∧ w'.cell? ⟨(ad346.add ((x6_1).toNat * 3)).block, (ad346.add ((x6_1).toNat * 3)).off + 2, none⟩ = some (.string ((rd_T139 l0 x6_1).f2))) (ds := []) #[false, false, false, false, false, false, false, false, false, false, false, false, false, false] (by kernel_rfl) rfl rfl ⟨((HB.out.cell (World.block_lt_of_cell? w _ hw353_0)).trans hw353_0), ((HB.out.cell (World.block_lt_of_cell? w _ hw353_1)).trans hw353_1), ((HB.out.cell (World.block_lt_of_cell? w _ hw353_2)).trans hw353_2), ((HB.out.cell (World.block_lt_of_cell? w _ hw354_0)).trans hw354_0), ((HB.out.cell (World.block_lt_of_cell? w _ hw354_1)).trans hw354_1), ((HB.out.cell (World.block_lt_of_cell? w _ hw354_2)).trans hw354_2)⟩ (fun hHeld => ?_); refine with_tabW cachepothand_Writes.tab7 cachepothand_Writes.bits7 (fun HT_ HW_ => ?_)
                    generalize w31.drew = w32 at HO_5 BK349 HB hx353_0 hx353_1 hx353_2 hx354_0 hx354_1 hx354_2 hHeld ⊢
                    refine pure_ (i := 0) (N := some 34) (v := ?_) (a' := ?_) #[true, false, false, false, false, false, false, false, false, false, false, false, false, false] rfl rfl (any_of HT_.out (by kernel_rfl)) (fun _ _ _ h => h) (Or.inl ⟨by rfl, ?_⟩) ?_ ?_
                    rotate_left
                    · intro w'
                      go_simp
                      with_reducible rfl
                    rotate_left
                    · simp only [Act.put, List.setIfInBounds_toArray, List.set_cons_zero, List.set_cons_succ, i64_w, i32_w]
                      rfl
                    refine pure_ (i := 1) (N := some 35) (v := ?_) (a' := ?_) #[true, true, false, false, false, false, false, false, false, false, false, false, false, false] rfl rfl (any_of HT_.out (by kernel_rfl)) (fun _ _ _ h => h) (Or.inl ⟨by rfl, ?_⟩) ?_ ?_
                    rotate_left
                    · intro w'
                      go_simp
                      with_reducible rfl
                    rotate_left
                    · simp only [Act.put, List.setIfInBounds_toArray, List.set_cons_zero, List.set_cons_succ, i64_w, i32_w]
                      rfl
                    refine pure_ (i := 2) (N := some 36) (v := ?_) (a' := ?_) #[true, true, true, false, false, false, false, false, false, false, false, false, false, false] rfl rfl (any_of HT_.out (by kernel_rfl)) (fun _ _ _ h => h) (Or.inl ⟨by rfl, ?_⟩) ?_ ?_
                    rotate_left
                    · intro w'
                      go_simp
                      with_reducible rfl
                    rotate_left
                    · simp only [Act.put, List.setIfInBounds_toArray, List.set_cons_zero, List.set_cons_succ, i64_w, i32_w]
                      rfl
                    refine pure_ (i := 3) (N := some 37) (v := ?_) (a' := ?_) #[true, true, true, true, false, false, false, false, false, false, false, false, false, false] rfl rfl (any_of HT_.out (by kernel_rfl)) (fun _ _ _ h => h) (Or.inl ⟨by rfl, ?_⟩) ?_ ?_
                    rotate_left
                    · intro w'
                      go_simp
                      with_reducible rfl
                    rotate_left
                    · simp only [Act.put, List.setIfInBounds_toArray, List.set_cons_zero, List.set_cons_succ, i64_w, i32_w]
                      rfl
                    refine pure_ (i := 5) (N := some 39) (v := ?_) (a' := ?_) #[true, true, true, true, false, true, false, false, false, false, false, false, false, false] rfl rfl (any_of HT_.out (by kernel_rfl)) (fun _ _ _ h => h) (Or.inl ⟨by rfl, ?_⟩) ?_ ?_
                    rotate_left
                    · intro w'
                      go_simp
                      with_reducible rfl
                    rotate_left
                    · simp only [Act.put, List.setIfInBounds_toArray, List.set_cons_zero, List.set_cons_succ, i64_w, i32_w]
                      rfl
                    refine pure_ (i := 6) (N := some 40) (v := ?_) (a' := ?_) #[true, true, true, true, false, true, true, false, false, false, false, false, false, false] rfl rfl (any_of HT_.out (by kernel_rfl)) (fun _ _ _ h => h) (Or.inl ⟨by rfl, ?_⟩) ?_ ?_
                    rotate_left
                    · intro w'
                      go_simp
                      with_reducible rfl
                    rotate_left
                    · simp only [Act.put, List.setIfInBounds_toArray, List.set_cons_zero, List.set_cons_succ, i64_w, i32_w]
                      rfl
                    refine pure_ (i := 7) (N := some 41) (v := ?_) (a' := ?_) #[true, true, true, true, false, true, true, true, false, false, false, false, false, false] rfl rfl (any_of HT_.out (by kernel_rfl)) (fun _ _ _ h => h) (Or.inl ⟨by rfl, ?_⟩) ?_ ?_
                    rotate_left
                    · intro w'
                      go_simp
                      with_reducible rfl
                    rotate_left
                    · simp only [Act.put, List.setIfInBounds_toArray, List.set_cons_zero, List.set_cons_succ, i64_w, i32_w]
                      rfl
                    refine pure_ (i := 8) (N := some 42) (v := ?_) (a' := ?_) #[true, true, true, true, false, true, true, true, true, false, false, false, false, false] rfl rfl (any_of HT_.out (by kernel_rfl)) (fun _ _ _ h => h) (Or.inl ⟨by rfl, ?_⟩) ?_ ?_
                    rotate_left
                    · intro w'
                      go_simp
                      with_reducible rfl
                    rotate_left
                    · simp only [Act.put, List.setIfInBounds_toArray, List.set_cons_zero, List.set_cons_succ, i64_w, i32_w]
                      rfl
                    refine take_ (i := 4) (N := some 38) (v := ?_) (a' := ?_) #[true, true, true, true, true, true, true, true, true, false, false, false, false, false] rfl rfl (take_ofW HT_.out HW_.out (by kernel_rfl)) (fun _ _ _ h => h) (Or.inl ⟨by rfl, ?_⟩) hHeld ?_ ?_
                    rotate_left
                    · rintro w' ⟨s0, s1, s2, s3, s4, s5⟩
                      go_simp
                      with_reducible rfl
                    rotate_left
                    · simp only [Act.put, List.setIfInBounds_toArray, List.set_cons_zero, List.set_cons_succ, i64_w, i32_w]
                      rfl
                    refine take_ (i := 9) (N := some 43) (v := ?_) (a' := ?_) #[true, true, true, true, true, true, true, true, true, true, false, false, false, false] rfl rfl (take_ofW HT_.out HW_.out (by kernel_rfl)) (fun _ _ _ h => h) (Or.inl ⟨by rfl, ?_⟩) hHeld ?_ ?_
                    rotate_left
                    · rintro w' ⟨s0, s1, s2, s3, s4, s5⟩
                      go_simp
                      with_reducible rfl
                    rotate_left
                    · simp only [Act.put, List.setIfInBounds_toArray, List.set_cons_zero, List.set_cons_succ, i64_w, i32_w]
                      rfl
                    refine pure_ (i := 10) (N := some 44) (v := ?_) (a' := ?_) #[true, true, true, true, true, true, true, true, true, true, true, false, false, false] rfl rfl (any_of HT_.out (by kernel_rfl)) (fun _ _ _ h => h) (Or.inl ⟨by rfl, ?_⟩) ?_ ?_
                    rotate_left
                    · intro w'
                      go_simp
                      with_reducible rfl
                    rotate_left
                    · simp only [Act.put, List.setIfInBounds_toArray, List.set_cons_zero, List.set_cons_succ, i64_w, i32_w]
                      rfl
                    refine one_ (i := 11) (N := some 45) #[true, true, true, true, true, true, true, true, true, true, true, true, false, false] rfl rfl (one_of HT_.out (by kernel_rfl)) (by decide) (fun K hK => ?_)
                    refine goes_ Tryd.func100 (by kernel_rfl) rfl #[.string ((rd_T139 l0 x6_1).f2), .int .i64 (wrap64 (Int.tdiv ((rd_T139 l0 x6_1).f0) 12))] (by rfl) rfl rfl (by (try simp only [List.map_toArray, List.map_cons, List.map_nil]); first | done | rfl | (simp only [List.length_drop, List.length_take]; rfl)) ?_
                    with_reducible refine (cachepothand_Val.calls kj2 ((rd_T139 l0 x6_1).f2) (wrap64 (Int.tdiv ((rd_T139 l0 x6_1).f0) 12)) t355 _ A21.out).mono ?_
                    rintro e w33 ⟨rfl, hb⟩
                    refine ⟨_, rfl, ?_⟩
                    have n0_ := Aside0.mk (Kd.R_below (by (with_reducible repeat (first | apply Kd.R_alloc | apply Kd.R_drewN | apply Kd.R_drew)); exact HO_5.out) hb)
                    have n1_ := Aside0.mk (blk_below (g := gb349) (o := .cells #[.string t347, .bool false, .string (⟨#[]⟩ : ByteArray)] 101 (0, 0)) (by (with_reducible repeat (first | refine blk_drewN ?_ _ | refine blk_drew ?_ | refine blk_alloc ?_ _)); exact BK349.out) hb)
                    have n2_ := Aside0.mk (below_step (by repeat (first | (with_reducible first | exact HB.out | apply below_alloc | apply pw_below_drewN | apply below_drew1 | refine below_set ?_ GE349.out) | exact HB.out)) hb)
                    clear HO_5
                    clear BK349
                    clear HB
                    have HO_5 := n0_
                    have BK349 := n1_
                    have HB := n2_
                    clear n0_ n1_ n2_
                    (try clear hb)
                    (try clear hb2)
                    (try clear hk)
                    (try clear hi)
                    refine hK.out _ _ ⟨((HB.out.cell (World.block_lt_of_cell? w _ hw353_0)).trans hw353_0), ((HB.out.cell (World.block_lt_of_cell? w _ hw353_1)).trans hw353_1), ((HB.out.cell (World.block_lt_of_cell? w _ hw353_2)).trans hw353_2), ((HB.out.cell (World.block_lt_of_cell? w _ hw354_0)).trans hw354_0), ((HB.out.cell (World.block_lt_of_cell? w _ hw354_1)).trans hw354_1), ((HB.out.cell (World.block_lt_of_cell? w _ hw354_2)).trans hw354_2)⟩ (fun hHeld => ?_)
                    clear hK K
                    refine norm_ (a' := ?_) ?_ ?_
                    rotate_left
                    · show Act.put _ (some 45) _ = _
                      simp only [Act.put, List.setIfInBounds_toArray, List.set_cons_zero, List.set_cons_succ, i64_w, i32_w]
                      rfl
                    refine pure_ (i := 12) (N := some 46) (v := ?_) (a' := ?_) #[true, true, true, true, true, true, true, true, true, true, true, true, true, false] rfl rfl (any_of HT_.out (by kernel_rfl)) (fun _ _ _ h => h) (Or.inl ⟨by rfl, ?_⟩) ?_ ?_
                    rotate_left
                    · intro w'
                      go_simp
                      with_reducible rfl
                    rotate_left
                    · simp only [Act.put, List.setIfInBounds_toArray, List.set_cons_zero, List.set_cons_succ, i64_w, i32_w]
                      rfl
                    refine one_ (i := 13) (N := none) #[true, true, true, true, true, true, true, true, true, true, true, true, true, true] rfl rfl (one_of HT_.out (by kernel_rfl)) (by decide) (fun K hK => ?_)
                    have hs34 : w33.cell? ⟨gb349, 2, none⟩ = some (.string (⟨#[]⟩ : ByteArray)) := (blk_cell BK349.out 2).trans rfl
                    have hfs34 := blk_frozen BK349.out 2
                    refine skip_ (w1 := ?_) (by rfl) rfl ?_ ?_
                    rotate_left
                    · go_simp
                      rfl
                    refine hK.out _ _ ⟨((cell_far (p := ⟨gb349, _, none⟩) (by first | exact Nat.ne_of_lt (Nat.lt_of_lt_of_le (by have := World.block_lt_of_cell? _ _ hw353_0; first | rwa [add_block] at this | exact this) GW349.out) | (rw [add_block]; exact Nat.ne_of_lt (Nat.lt_of_lt_of_le (by have := World.block_lt_of_cell? _ _ hw353_0; first | rwa [add_block] at this | exact this) GW349.out)) | (show (Addr.add _ _).block ≠ _; rw [add_block]; exact Nat.ne_of_lt (Nat.lt_of_lt_of_le (by have := World.block_lt_of_cell? _ _ hw353_0; first | rwa [add_block] at this | exact this) GW349.out)) | (dsimp only; exact Nat.ne_of_lt (Nat.lt_of_lt_of_le (by have := World.block_lt_of_cell? _ _ hw353_0; first | rwa [add_block] at this | exact this) GW349.out))) _).trans (hHeld.1)), ((cell_far (p := ⟨gb349, _, none⟩) (by first | exact Nat.ne_of_lt (Nat.lt_of_lt_of_le (by have := World.block_lt_of_cell? _ _ hw353_1; first | rwa [add_block] at this | exact this) GW349.out) | (rw [add_block]; exact Nat.ne_of_lt (Nat.lt_of_lt_of_le (by have := World.block_lt_of_cell? _ _ hw353_1; first | rwa [add_block] at this | exact this) GW349.out)) | (show (Addr.add _ _).block ≠ _; rw [add_block]; exact Nat.ne_of_lt (Nat.lt_of_lt_of_le (by have := World.block_lt_of_cell? _ _ hw353_1; first | rwa [add_block] at this | exact this) GW349.out)) | (dsimp only; exact Nat.ne_of_lt (Nat.lt_of_lt_of_le (by have := World.block_lt_of_cell? _ _ hw353_1; first | rwa [add_block] at this | exact this) GW349.out))) _).trans (hHeld.2.1)), ((cell_far (p := ⟨gb349, _, none⟩) (by first | exact Nat.ne_of_lt (Nat.lt_of_lt_of_le (by have := World.block_lt_of_cell? _ _ hw353_2; first | rwa [add_block] at this | exact this) GW349.out) | (rw [add_block]; exact Nat.ne_of_lt (Nat.lt_of_lt_of_le (by have := World.block_lt_of_cell? _ _ hw353_2; first | rwa [add_block] at this | exact this) GW349.out)) | (show (Addr.add _ _).block ≠ _; rw [add_block]; exact Nat.ne_of_lt (Nat.lt_of_lt_of_le (by have := World.block_lt_of_cell? _ _ hw353_2; first | rwa [add_block] at this | exact this) GW349.out)) | (dsimp only; exact Nat.ne_of_lt (Nat.lt_of_lt_of_le (by have := World.block_lt_of_cell? _ _ hw353_2; first | rwa [add_block] at this | exact this) GW349.out))) _).trans (hHeld.2.2.1)), ((cell_far (p := ⟨gb349, _, none⟩) (by first | exact Nat.ne_of_lt (Nat.lt_of_lt_of_le (by have := World.block_lt_of_cell? _ _ hw354_0; first | rwa [add_block] at this | exact this) GW349.out) | (rw [add_block]; exact Nat.ne_of_lt (Nat.lt_of_lt_of_le (by have := World.block_lt_of_cell? _ _ hw354_0; first | rwa [add_block] at this | exact this) GW349.out)) | (show (Addr.add _ _).block ≠ _; rw [add_block]; exact Nat.ne_of_lt (Nat.lt_of_lt_of_le (by have := World.block_lt_of_cell? _ _ hw354_0; first | rwa [add_block] at this | exact this) GW349.out)) | (dsimp only; exact Nat.ne_of_lt (Nat.lt_of_lt_of_le (by have := World.block_lt_of_cell? _ _ hw354_0; first | rwa [add_block] at this | exact this) GW349.out))) _).trans (hHeld.2.2.2.1)), ((cell_far (p := ⟨gb349, _, none⟩) (by first | exact Nat.ne_of_lt (Nat.lt_of_lt_of_le (by have := World.block_lt_of_cell? _ _ hw354_1; first | rwa [add_block] at this | exact this) GW349.out) | (rw [add_block]; exact Nat.ne_of_lt (Nat.lt_of_lt_of_le (by have := World.block_lt_of_cell? _ _ hw354_1; first | rwa [add_block] at this | exact this) GW349.out)) | (show (Addr.add _ _).block ≠ _; rw [add_block]; exact Nat.ne_of_lt (Nat.lt_of_lt_of_le (by have := World.block_lt_of_cell? _ _ hw354_1; first | rwa [add_block] at this | exact this) GW349.out)) | (dsimp only; exact Nat.ne_of_lt (Nat.lt_of_lt_of_le (by have := World.block_lt_of_cell? _ _ hw354_1; first | rwa [add_block] at this | exact this) GW349.out))) _).trans (hHeld.2.2.2.2.1)), ((cell_far (p := ⟨gb349, _, none⟩) (by first | exact Nat.ne_of_lt (Nat.lt_of_lt_of_le (by have := World.block_lt_of_cell? _ _ hw354_2; first | rwa [add_block] at this | exact this) GW349.out) | (rw [add_block]; exact Nat.ne_of_lt (Nat.lt_of_lt_of_le (by have := World.block_lt_of_cell? _ _ hw354_2; first | rwa [add_block] at this | exact this) GW349.out)) | (show (Addr.add _ _).block ≠ _; rw [add_block]; exact Nat.ne_of_lt (Nat.lt_of_lt_of_le (by have := World.block_lt_of_cell? _ _ hw354_2; first | rwa [add_block] at this | exact this) GW349.out)) | (dsimp only; exact Nat.ne_of_lt (Nat.lt_of_lt_of_le (by have := World.block_lt_of_cell? _ _ hw354_2; first | rwa [add_block] at this | exact this) GW349.out))) _).trans (hHeld.2.2.2.2.2))⟩ (fun hHeld => ?_)
                    clear hK K
                    refine done_ (done_of HT_.out (by kernel_rfl)) ?_
                    have hcz35_0 : w33.cell? ⟨gb349, 0, none⟩ = some (.string t347) := (blk_cell BK349.out 0).trans rfl
                    have hcz35_1 : w33.cell? ⟨gb349, 1, none⟩ = some (.bool false) := (blk_cell BK349.out 1).trans rfl
                    have hcz35_2 : w33.cell? ⟨gb349, 2, none⟩ = some (.string (⟨#[]⟩ : ByteArray)) := (blk_cell BK349.out 2).trans rfl
                    have hfz35_0 := blk_frozen BK349.out 0
                    have hfz35_1 := blk_frozen BK349.out 1
                    have hfz35_2 := blk_frozen BK349.out 2
                    try go_wp2_with (first | ((with_reducible refine gate_builtin (b := .append) (xs := #[.tmp 47, .tmp 49]) rfl ?_); at_builtin; refine Kd.R_append k101 (w0 := w) w.heap.size rfl (.tmp 47) (.tmp 49) 40 101 (.agg #[(.string ⟨#[]⟩), (.bool false), (.string ⟨#[]⟩)]) 40 rfl Tryd.underlying40 info101 rfl (by decide) (by omega) u5 x5_1 (⟨t347, false, t355⟩ : S101) [.string t347, .bool false, .string t355] (fun k_ => k_ ≠ gb349) (fun _ => False) rfl (by first | (go_simp; done) | (go_simp; rfl)) ?aP (fun _ hk => hk.elim) ?aF ?aO ?aB ?aS ?aL ?_; (case aP => exact k101_mkM _ _ _ (⟨t347, false, t355⟩ : S101)); (case aB => exact (by repeat (first | (with_reducible first | exact HB.out | apply below_alloc | apply pw_below_drewN | apply below_drew1 | refine below_set ?_ GE349.out) | exact HB.out))); (case aF => exact (fun k_ hk => Kd.freshB (g := gb349) (o := .cells #[.string t347, .bool false, .string t355] 101 (0, 0)) (by (with_reducible repeat (first | refine blk_drewN ?_ _ | refine blk_drew ?_ | refine blk_alloc ?_ _)); refine blk_put (cs := #[.string t347, .bool false, .string (⟨#[]⟩ : ByteArray)]) ?_ 2 _ rfl; (with_reducible repeat (first | refine blk_drewN ?_ _ | refine blk_drew ?_ | refine blk_alloc ?_ _)); exact BK349.out) k_ hk)); (case aO => exact (by (with_reducible repeat (first | apply Kd.R_alloc | apply Kd.R_drewN | apply Kd.R_drew)); exact Kd.R_mono (Kd.R_far (p := ⟨gb349, 2, none⟩) (Kd.R_mono HO_5.out (fun k_ hk => (⟨hk, hk⟩ : _ ∧ k_ ≠ gb349))) (fun _ hk => hk.2) (.string t355)) (fun _ hk => hk.1))); (case aS => exact (below_size (by repeat (first | (with_reducible first | exact HB.out | apply below_alloc | apply pw_below_drewN | apply below_drew1 | refine below_set ?_ GE349.out) | exact HB.out)))); (case aL => have := LMc22.out; omega); intro v357 w36 ho hb hg hat; rw [← Ny356.out] at ho; have n0_ := Aside0.mk (blk_grown (g := gb349) (o := .cells #[.string t347, .bool false, .string t355] 101 (0, 0)) (by (with_reducible repeat (first | refine blk_drewN ?_ _ | refine blk_drew ?_ | refine blk_alloc ?_ _)); refine blk_put (cs := #[.string t347, .bool false, .string (⟨#[]⟩ : ByteArray)]) ?_ 2 _ rfl; (with_reducible repeat (first | refine blk_drewN ?_ _ | refine blk_drew ?_ | refine blk_alloc ?_ _)); exact BK349.out) hg (Kd.R_away HO_5.out (fun _ hk => hk))); have n1_ := Aside0.mk (hb); have n2_ := Aside0.mk (ho); clear BK349; clear HB; clear HO_5; have BK349 := n0_; have HB := n1_; have HO358 := n2_; clear n0_ n1_ n2_; clear ho hb hg hat))
                    go_roundg kj2
                    case measure => have := HK1.out; have := HJ2.out; omega
                    case rel => exact ⟨(y356), (wrap64 (x6_1 + 1)), (by first | rfl | (simp; done) | (simp [*]; done)), H', ⟨by have := HK1.out; have := HJ2.out; omega⟩, ⟨by (with_reducible repeat (first | apply Kd.R_alloc | apply Kd.R_drewN | apply Kd.R_drew)); exact Kd.R_mono HO358.out (fun _ hk => trivial)⟩, ⟨by repeat (first | (with_reducible first | exact HB.out | apply below_alloc | apply pw_below_drewN | apply below_drew1 | refine below_set ?_ GE349.out) | exact HB.out)⟩⟩
                  · rw [if_neg c22] at H
                    exact absurd H (by simp)
              · rw [if_neg c7] at H
                exact absurd H (by simp)
            · rw [if_neg c6] at H
              exact absurd H (by simp)
          · replace c5 := Bool.eq_false_iff.mpr c5
            subst c5
            have H1 : (if (x5_1.length : Int) = 0 then ((cachepotref1_BatchMake.f kj2 (([(⟨(⟨#[97]⟩ : ByteArray), false, (⟨#[49]⟩ : ByteArray)⟩ : S101)] : List (S101)))).bind fun t340 => (some t340)) else ((cachepotref1_BatchMake.f kj2 x5_1).bind fun t343 => (some t343))) = some r := by rw [if_neg (show ¬ (false = true) by decide)] at H; exact H
            clear H
            have H := H1
            clear H1
            by_cases c37 : (x5_1.length : Int) = 0
            · rw [if_pos c37] at H
              have c37b0 : ((x5_1.length : Int) == 0) = true := beq_iff_eq.mpr c37
              have c37b1 : ((x5_1.length : Int) != 0) = false := bne_eq_false_iff_eq.mpr c37
              clear c37
              obtain ⟨y337, hy337⟩ : ∃ y_ : List (S101), y_ = (([(⟨(⟨#[97]⟩ : ByteArray), false, (⟨#[49]⟩ : ByteArray)⟩ : S101)] : List (S101))) := ⟨_, rfl⟩
              replace H : ((cachepotref1_BatchMake.f kj2 y337).bind fun t340 => (some t340)) = some r := by first | (rw [hy337]; with_reducible exact H) | (have H2_ := (Option.bind_some _ _).symm.trans H; rw [hy337]; with_reducible exact H2_) | (have H2_ := (Option.bind_some _ _).symm.trans H; with_reducible exact H2_) | with_reducible exact H | (rw [hy337]; exact H) | exact H
              have Ny337 := Aside0.mk hy337
              clear hy337
              replace H := Option.bind_eq_some_iff.mp H
              obtain ⟨t340, A380, H⟩ := H
              replace H : (some t340) = some r := H
              have A38 := Aside0.mk A380
              clear A380
              obtain rfl := Option.some.inj H
              obtain ⟨Ao39, co39, eo39⟩ := Kd.R_slice HO_5.out
              subst eo39
              go_wp2_with (first | ((with_reducible refine gate_dst (N := 55) rfl ?_); refine Kd.R_lit k101 _ 101 ?hg (N := 55) ?hd (xs := ([(⟨(⟨#[97]⟩ : ByteArray), false, (⟨#[49]⟩ : ByteArray)⟩ : S101)] : List (S101))) (inner := [.string (⟨#[97]⟩ : ByteArray), .bool false, .string (⟨#[49]⟩ : ByteArray)]) (ok := fun _ => True) (okp := fun _ => True) ?hr ?hp (fun _ hk => hk) trivial (Below.refl _ _) (Nat.le_refl _) (by simp) ?_; (case hd => rfl); (case hg => rfl); (case hr => first | (go_simp; done) | (go_simp; rfl)); (case hp => exact (Reps.c3 (show Kd.M k101 _ _ _ (⟨(⟨#[97]⟩ : ByteArray), false, (⟨#[49]⟩ : ByteArray)⟩ : S101) [.string (⟨#[97]⟩ : ByteArray), .bool false, .string (⟨#[49]⟩ : ByteArray)] from (k101_mkM _ _ _ (⟨(⟨#[97]⟩ : ByteArray), false, (⟨#[49]⟩ : ByteArray)⟩ : S101) )) (Reps.none _ _))); intro v338 w40 ho41 hb hg_ hnew_; clear hg_ hnew_; (first | rw [← Ny337.out] at ho41 | (simp only [Int.reduceToNat] at ho41; rw [← Ny337.out] at ho41)); have n0_ := Aside0.mk (Kd.R_elder' (by (with_reducible repeat (first | apply Kd.R_alloc | apply Kd.R_drewN | apply Kd.R_drew)); exact HO_5.out) (Kd.R_base ho41) hb); have n1_ := Aside0.mk (Kd.R_lower (Kd.R_new' ho41 (Kd.R_lt (by (with_reducible repeat (first | apply Kd.R_alloc | apply Kd.R_drewN | apply Kd.R_drew)); exact HO_5.out))) (below_size (by repeat (first | (with_reducible first | exact HB.out | apply below_alloc | apply pw_below_drewN | apply below_drew1) | exact HB.out)))); have n2_ := Aside0.mk (below_step (by repeat (first | (with_reducible first | exact HB.out | apply below_alloc | apply pw_below_drewN | apply below_drew1) | exact HB.out)) hb); clear HO_5; clear HB; have HO_5 := n0_; have HO339 := n1_; have HB := n2_; clear n0_ n1_ n2_; clear hb ho41; obtain ⟨Ao42, co42, eo42⟩ := Kd.R_slice HO339.out; subst eo42) | ((with_reducible refine gate_callee (f := 101) rfl ?_); refine goesL_ (some 57) rfl rfl Tryd.func101 (by kernel_rfl) rfl #[.slice Ao42 y337.length co42] rfl (by (try simp only [List.map_toArray, List.map_cons, List.map_nil]); first | done | rfl | (simp only [List.length_drop, List.length_take]; rfl)) ?_; (with_reducible refine (cachepotref1_BatchMake.calls kj2 _ _ y337 t340 _ ?side1 ?side2 A38.out).mono ?_); (case side1 => repeat (first | exact (Kd.R_reads' HO339.out).2.2 | (with_reducible refine Kd.C_alloc ?_ _) | (with_reducible refine Kd.C_drewN ?_ _) | (with_reducible refine Kd.C_drew ?_))); (case side2 => exact (Kd.R_reads' HO339.out).2.1); rintro e w43 ⟨v341, rfl, ho0, hb⟩; refine ⟨_, rfl, ?_⟩; have n0_ := Aside0.mk (Kd.R_elder' (by (with_reducible repeat (first | apply Kd.R_alloc | apply Kd.R_drewN | apply Kd.R_drew)); exact HO_5.out) (Kd.R_base ho0) hb); have n1_ := Aside0.mk (Kd.R_elder' (by (with_reducible repeat (first | apply Kd.R_alloc | apply Kd.R_drewN | apply Kd.R_drew)); exact HO339.out) (Kd.R_base ho0) hb); have n2_ := Aside0.mk (Kd.R_lower (Kd.R_new' (Kd.R_new' ho0 (Kd.R_lt (by (with_reducible repeat (first | apply Kd.R_alloc | apply Kd.R_drewN | apply Kd.R_drew)); exact HO_5.out))) (Kd.R_lt (by (with_reducible repeat (first | apply Kd.R_alloc | apply Kd.R_drewN | apply Kd.R_drew)); exact HO339.out))) (below_size (by repeat (first | (with_reducible first | exact HB.out | apply below_alloc | apply pw_below_drewN | apply below_drew1) | exact HB.out)))); have n3_ := Aside0.mk (below_step (by repeat (first | (with_reducible first | exact HB.out | apply below_alloc | apply pw_below_drewN | apply below_drew1) | exact HB.out)) hb); clear HO_5; clear HO339; clear HB; have HO_5 := n0_; have HO339 := n1_; have HO342 := n2_; have HB := n3_; clear n0_ n1_ n2_ n3_; (try clear hb); (try clear hb2); (try clear hk); (try clear hi); (try clear ho0)))
              go_ret
              exact ⟨_, by first | rfl | (simp [errW_none, errW_some] <;> rfl) | (simp [*, errW_none, errW_some] <;> rfl), by (with_reducible repeat (first | apply Kd.R_alloc | apply Kd.R_drewN | apply Kd.R_drew)); exact Kd.R_mono HO342.out (fun _ hk => trivial), by repeat (first | (with_reducible first | exact HB.out | apply below_alloc | apply pw_below_drewN | apply below_drew1) | exact HB.out)⟩
            · rw [if_neg c37] at H
              have c37b0 : ((x5_1.length : Int) == 0) = false := beq_eq_false_iff_ne.mpr c37
              have c37b1 : ((x5_1.length : Int) != 0) = true := bne_iff_ne.mpr c37
              have c37b2 : ¬ (x5_1 = []) := fun h_ => c37 (by rw [h_]; rfl)
              replace H := Option.bind_eq_some_iff.mp H
              obtain ⟨t343, A440, H⟩ := H
              replace H : (some t343) = some r := H
              have A44 := Aside0.mk A440
              clear A440
              obtain rfl := Option.some.inj H
              obtain ⟨Ao45, co45, eo45⟩ := Kd.R_slice HO_5.out
              subst eo45
              go_wp2_with (first | ((with_reducible refine gate_callee (f := 101) rfl ?_); refine goesL_ (some 57) rfl rfl Tryd.func101 (by kernel_rfl) rfl #[.slice Ao45 x5_1.length co45] rfl (by (try simp only [List.map_toArray, List.map_cons, List.map_nil]); first | done | rfl | (simp only [List.length_drop, List.length_take]; rfl)) ?_; (with_reducible refine (cachepotref1_BatchMake.calls kj2 _ _ x5_1 t343 _ ?side1 ?side2 A44.out).mono ?_); (case side1 => repeat (first | exact (Kd.R_reads' HO_5.out).2.2 | (with_reducible refine Kd.C_alloc ?_ _) | (with_reducible refine Kd.C_drewN ?_ _) | (with_reducible refine Kd.C_drew ?_))); (case side2 => exact (Kd.R_reads' HO_5.out).2.1); rintro e w46 ⟨v344, rfl, ho0, hb⟩; refine ⟨_, rfl, ?_⟩; have n0_ := Aside0.mk (Kd.R_elder' (by (with_reducible repeat (first | apply Kd.R_alloc | apply Kd.R_drewN | apply Kd.R_drew)); exact HO_5.out) (Kd.R_base ho0) hb); have n1_ := Aside0.mk (Kd.R_lower (Kd.R_new' ho0 (Kd.R_lt (by (with_reducible repeat (first | apply Kd.R_alloc | apply Kd.R_drewN | apply Kd.R_drew)); exact HO_5.out))) (below_size (by repeat (first | (with_reducible first | exact HB.out | apply below_alloc | apply pw_below_drewN | apply below_drew1) | exact HB.out)))); have n2_ := Aside0.mk (below_step (by repeat (first | (with_reducible first | exact HB.out | apply below_alloc | apply pw_below_drewN | apply below_drew1) | exact HB.out)) hb); clear HO_5; clear HB; have HO_5 := n0_; have HO345 := n1_; have HB := n2_; clear n0_ n1_ n2_; (try clear hb); (try clear hb2); (try clear hk); (try clear hi); (try clear ho0)))
              go_ret
              exact ⟨_, by first | rfl | (simp [errW_none, errW_some] <;> rfl) | (simp [*, errW_none, errW_some] <;> rfl), by (with_reducible repeat (first | apply Kd.R_alloc | apply Kd.R_drewN | apply Kd.R_drew)); exact Kd.R_mono HO345.out (fun _ hk => trivial), by repeat (first | (with_reducible first | exact HB.out | apply below_alloc | apply pw_below_drewN | apply below_drew1) | exact HB.out)⟩
end Go.Proofs.YtfaelejeihmgcaaDoor.Lgx
end

section
namespace Go.Proofs.YtfaelejeihmgcaaDoor.Lgx
open Go.RowKit Go.Proofs.YtfaelejeihmgcaaDoorW.PrintWords Go.Proofs.YtfaelejeihmgcaaDoorW.PrintLast
/-- the next number -/
def nextSeq (seq f1 : Int) : Int := (seq + (1 + Int.tmod f1 3) % 4294967296) % 4294967296
/-- what a row turns to: the event, the number, the reference's rows -/
def row1 (x : S58) (seq : Int) (L : List S98) : Option (S43 × Int × List S98) :=
  if pickI x.f0 8 = 3 then (cachepothand_Keys.f 1000 x.f3 4).bind fun ks => some (⟨3, 0, [], [], ks⟩, seq, forgetF ks L)
  else if pickI x.f0 8 = 4 ∨ pickI x.f0 8 = 5 ∨ pickI x.f0 8 = 6 then (cachepothand_Keys.f 1000 x.f3 5).bind fun ks => some (⟨2, 0, [], refGetF L ks, []⟩, seq, L)
  else if pickI x.f0 8 = 7 then (cachepotlaw21_short.f 1000 x.f4.f0 x.f4.f1 x.f4.f2 x.f4.f3 x.f4.f4).bind fun r => some (⟨r.1, r.2.1, r.2.2.1, r.2.2.2.1, r.2.2.2.2⟩, seq, L)
  else (cachepothand_Writes.f 1000 x.f2 5).bind fun ws => some (⟨1, nextSeq seq x.f1, ws, [], []⟩, nextSeq seq x.f1, commitF (nextSeq seq x.f1) ws L)
def eventsG : List S58 → Int → Nat → Int → List S98 → List S43 → Option (List S43)
  | [], _, _, _, _, out => some out
  | x :: l, turn, i, seq, L, out => if i < 30 then
      (row1 x seq L).bind fun r => if okRow r.1 L r.2.2 = true then eventsG l turn (i + 1) r.2.1 r.2.2 (out ++ [if (i : Int) = turn then turnE r.1 x.f5 x.f6 else r.1]) else none
    else some out
def cachepotlaw21_events.f (l : List S58) (turn : Int) : Option (List S43) := if l.length ≤ 9223372036854775807 then eventsG l turn 0 0 [] [] else none
theorem rd58 {l : List S58} {k : Nat} (h : k < l.length) : rd_T58 l (k : Int) = l[k] := by
  unfold rd_T58
  rw [List.getD_eq_getElem?_getD, Int.toNat_natCast, List.getElem?_eq_getElem h]
  rfl
set_option maxHeartbeats 8000000 in
set_option maxRecDepth 100000 in
theorem cachepotlaw21_events.calls (A0 : Option Addr) (c0 : Nat) (l0 : List (S58)) (a1 : Int) (r : List S43) (w : World) (hr0 : Kd.C k58 w A0 l0.length l0) (hc0 : l0.length ≤ c0) (h : cachepotlaw21_events.f l0 a1 = some r) (hT : Tabs w) :
    Calls Tryd.prog 34 #[.slice A0 l0.length c0, .int .i64 a1] w fun e w' => ∃ v0_ : Value, e = .returned v0_ ∧ Kd.R k43 43 w' w.heap.size (fun _ => True) v0_ r ∧ Below w.heap.size w w' := by
  have hlen : l0.length ≤ 9223372036854775807 := by
    unfold cachepotlaw21_events.f at h
    split at h
    · assumption
    · cases h
  have hq : Aside0 (eventsG l0 a1 0 0 [] [] = some r) := ⟨by unfold cachepotlaw21_events.f at h; rw [if_pos hlen] at h; exact h⟩
  have HC0 := Lib.hid hc0
  clear h hc0
  go_enter Tryd.func34, Tryd.ntmps34
  go_wp2
  have hb1 := below_alloc (Below.refl _ w) (.cells #[.slice none 0 0] 104)
  have hA1 : RefIs (w.alloc (.cells #[.slice none 0 0] 104)) w.heap.size w.heap.size (.slice none 0 0) [] := ⟨heap_alloc_new w _, Kd.R_nil _ _ _ _ _, Nat.le_refl _⟩
  generalize w.alloc (.cells #[.slice none 0 0] 104) = w1 at hb1 hA1 ⊢
  go_loopw [6, 7, 8] (fun vo vs i wr => ∃ (k : Nat) (seq : Int) (vm : Value) (L : List S98) (out : List S43), k ≤ l0.length ∧ k ≤ 30 ∧ i = .int .i64 k ∧ vs = .int .u32 seq ∧ out.length = k ∧ RefIs wr w.heap.size w.heap.size vm L ∧ Kd.R k43 43 wr w.heap.size (fun q => q ≠ w.heap.size) vo out ∧ Below w.heap.size w wr ∧ Aside0 (eventsG (l0.drop k) a1 k seq L out = some r)) (fun _ _ i _ => l0.length - (intOf i).toNat)
  case atStart => exact ⟨0, 0, _, [], [], Nat.zero_le _, Nat.zero_le _, rfl, rfl, rfl, hA1, Kd.R_nil _ _ _ _ _, hb1, by rw [List.drop_zero]; exact hq⟩
  case round =>
    clear hA1 hb1 hq
    obtain ⟨k, seq, vm, L, out, hkl, hk30, rfl, rfl, hol, hI, hRo, hb, hq⟩ := hrel
    by_cases hgo : k < l0.length ∧ k < 30
    · obtain ⟨hlt, hlt30⟩ := hgo
      obtain ⟨ad, A2, c2, A3, c3, A6, c6, A7, c7, A8, c8, e, x0, x1, x2, x3, x4, x5, x6, x7, x8, x9, x10, l2, g2, l3, g3, l6, g6, l7, g7, l8, g8⟩ := at_T58 hr0 k (by omega) (by omega)
      cases e
      rw [rd58 hlt] at x0 x1 x2 x3 x4 x5 x6 x7 x8 x9 x10 l2 g2 l3 g3 l6 g6 l7 g7 l8 g8
      have hqs := hq.out
      rw [List.drop_eq_getElem_cons hlt, eventsG, if_pos hlt30] at hqs
      obtain ⟨x, hx⟩ : ∃ x, x = l0[k] := ⟨_, rfl⟩
      rw [← hx] at x0 x1 x2 x3 x4 x5 x6 x7 x8 x9 x10 l2 g2 l3 g3 l6 g6 l7 g7 l8 g8 hqs
      obtain ⟨⟨ev, seq', L'⟩, hrow, hqs⟩ := Option.bind_eq_some_iff.1 hqs
      split at hqs
      case isFalse => cases hqs
      rename_i hokr
      simp only [Int.toNat_natCast] at x0 x1 x2 x3 x4 x5 x6 x7 x8 x9 x10
      replace x0 := (hb.cell (World.block_lt_of_cell? w _ x0)).trans x0
      replace x1 := (hb.cell (World.block_lt_of_cell? w _ x1)).trans x1
      replace x2 := (hb.cell (World.block_lt_of_cell? w _ x2)).trans x2
      replace x3 := (hb.cell (World.block_lt_of_cell? w _ x3)).trans x3
      replace x4 := (hb.cell (World.block_lt_of_cell? w _ x4)).trans x4
      replace x5 := (hb.cell (World.block_lt_of_cell? w _ x5)).trans x5
      replace x6 := (hb.cell (World.block_lt_of_cell? w _ x6)).trans x6
      replace x7 := (hb.cell (World.block_lt_of_cell? w _ x7)).trans x7
      replace x8 := (hb.cell (World.block_lt_of_cell? w _ x8)).trans x8
      replace x9 := (hb.cell (World.block_lt_of_cell? w _ x9)).trans x9
      replace x10 := (hb.cell (World.block_lt_of_cell? w _ x10)).trans x10
      have Hrow := Lib.hid hrow
      have Hokr := Lib.hid hokr
      have Hqs := Lib.hid hqs
      have HL2 := Lib.hid l2
      have HL3 := Lib.hid l3
      have HL6 := Lib.hid l6
      have HL7 := Lib.hid l7
      have HL8 := Lib.hid l8
      clear hx hq hqs hrow hokr l2 l3 l6 l7 l8
      obtain ⟨xq, xs, xl, xk, ⟨y0, y1, y2, y3, y4⟩, xa, xh⟩ := x
      have d30 : decide (k < 30) = true := decide_eq_true hlt30
      have d31 : decide ((k : Int) < 30) = true := decide_eq_true (by omega)
      have hblt := hI.lt
      go_wp2_with fail
      obtain ⟨n, hn⟩ : ∃ n, n = wr.heap.size := ⟨_, rfl⟩
      have s0 : St w ((wr.alloc (.cells #[.int .i64 xq, .int .u32 xs, .slice A2 xl.length c2, .slice A3 xk.length c3, .int .i64 y0, .int .u32 y1, .slice A6 y2.length c6, .slice A7 y3.length c7, .slice A8 y4.length c8, .int .i64 xa, .int .i64 xh] 58)).alloc (.cells #[.int .i64 0, .int .u32 0, .slice none 0 0, .slice none 0 0, .slice none 0 0] 43)) w.heap.size n vm L u6 out
          #[.int .i64 xq, .int .u32 xs, .slice A2 xl.length c2, .slice A3 xk.length c3, .int .i64 y0, .int .u32 y1, .slice A6 y2.length c6, .slice A7 y3.length c7, .slice A8 y4.length c8, .int .i64 xa, .int .i64 xh] #[.int .i64 0, .int .u32 0, .slice none 0 0, .slice none 0 0, .slice none 0 0] := by
        have h1 := below_alloc (Below.refl _ wr) (.cells #[.int .i64 xq, .int .u32 xs, .slice A2 xl.length c2, .slice A3 xk.length c3, .int .i64 y0, .int .u32 y1, .slice A6 y2.length c6, .slice A7 y3.length c7, .slice A8 y4.length c8, .int .i64 xa, .int .i64 xh] 58)
        have hx := heap_alloc_new wr (.cells #[.int .i64 xq, .int .u32 xs, .slice A2 xl.length c2, .slice A3 xk.length c3, .int .i64 y0, .int .u32 y1, .slice A6 y2.length c6, .slice A7 y3.length c7, .slice A8 y4.length c8, .int .i64 xa, .int .i64 xh] 58)
        have hz : (wr.alloc (.cells #[.int .i64 xq, .int .u32 xs, .slice A2 xl.length c2, .slice A3 xk.length c3, .int .i64 y0, .int .u32 y1, .slice A6 y2.length c6, .slice A7 y3.length c7, .slice A8 y4.length c8, .int .i64 xa, .int .i64 xh] 58)).heap.size = n + 1 := by simp [hn]
        generalize wr.alloc (.cells #[.int .i64 xq, .int .u32 xs, .slice A2 xl.length c2, .slice A3 xk.length c3, .int .i64 y0, .int .u32 y1, .slice A6 y2.length c6, .slice A7 y3.length c7, .slice A8 y4.length c8, .int .i64 xa, .int .i64 xh] 58) = W1 at h1 hx hz ⊢
        have h2 := below_alloc h1 (.cells #[.int .i64 0, .int .u32 0, .slice none 0 0, .slice none 0 0, .slice none 0 0] 43)
        have he := heap_alloc_new W1 (.cells #[.int .i64 0, .int .u32 0, .slice none 0 0, .slice none 0 0, .slice none 0 0] 43)
        rw [hz] at he
        rw [← hn] at hx
        refine ⟨hI.below h2, Kd.R_below (Kd.R_mono (Kd.R_bound hRo) (fun q hq => ⟨hq.1, by have := hq.2.2.1; omega⟩)) h2, ?_, he, below_then hb hb.size h2, by omega⟩
        rw [Lib.alloc_old W1 _ _ (by omega)]
        exact hx
      subst hn
      generalize ((wr.alloc (.cells #[.int .i64 xq, .int .u32 xs, .slice A2 xl.length c2, .slice A3 xk.length c3, .int .i64 y0, .int .u32 y1, .slice A6 y2.length c6, .slice A7 y3.length c7, .slice A8 y4.length c8, .int .i64 xa, .int .i64 xh] 58)).alloc (.cells #[.int .i64 0, .int .u32 0, .slice none 0 0, .slice none 0 0, .slice none 0 0] 43)) = W at s0 ⊢
      clear x0 x1 x2 x3 x4 x5 x6 x7 x8 x9 x10 hI hRo hb d30 d31
      refine (pick_same xq 8 (by decide) (by decide) _).mono ?_
      rintro e w4 ⟨rfl, rfl⟩
      obtain ⟨p0, p1⟩ := pickI_in xq 8 (by decide) (by decide)
      have hrow := Hrow.out
      simp only [row1] at hrow
      obtain ⟨q, hqe⟩ : ∃ q, q = pickI xq 8 := ⟨_, rfl⟩
      rw [← hqe] at hrow p0 p1 ⊢
      clear hqe Hrow
      by_cases q3 : q = 3
      · subst q3
        rw [if_pos rfl] at hrow
        obtain ⟨ks, hks, hrow⟩ := Option.bind_eq_some_iff.1 hrow
        simp only [Option.some.injEq, Prod.mk.injEq] at hrow
        obtain ⟨rfl, rfl, rfl⟩ := hrow
        have Hks := Lib.hid hks
        clear hks
        have z3 : w4.cell? ⟨wr.heap.size, 3, none⟩ = some (.slice A3 xk.length c3) := Lib.cell_of_heap s0.X 3
        go_wp2_with fail
        refine (cachepothand_Keys.calls 1000 A3 c3 xk 4 ks _ (Kd.C_below g3 s0.B) HL3.out Hks.out (hT.below s0.B)).mono ?_
        rintro e w5 ⟨vk, rfl, hRk, hb5⟩
        have s1 := s0.below hb5
        have hok1 := Kd.R_lower (Kd.R_mono (Kd.R_bound hRk) (fun q hq => (by have := s0.lt; have := hq.2.1; omega : wr.heap.size + 1 < q))) s0.B.size
        clear hRk hb5 z3
        obtain ⟨Ak, ck, ek⟩ := Kd.R_slice hok1
        subst ek
        have e0 : w5.cell? ⟨wr.heap.size + 1, 0, none⟩ = some (.int .i64 0) := Lib.cell_of_heap s1.E 0
        have e1 : w5.cell? ⟨wr.heap.size + 1, 1, none⟩ = some (.int .u32 0) := Lib.cell_of_heap s1.E 1
        have e2 : w5.cell? ⟨wr.heap.size + 1, 2, none⟩ = some (.slice none 0 0) := Lib.cell_of_heap s1.E 2
        have e3 : w5.cell? ⟨wr.heap.size + 1, 3, none⟩ = some (.slice none 0 0) := Lib.cell_of_heap s1.E 3
        have e4 : w5.cell? ⟨wr.heap.size + 1, 4, none⟩ = some (.slice none 0 0) := Lib.cell_of_heap s1.E 4
        have f0 : w5.frozen? ⟨wr.heap.size + 1, 0, none⟩ = false := Lib.frozen_of_heap s1.E 0
        have f1 : w5.frozen? ⟨wr.heap.size + 1, 1, none⟩ = false := Lib.frozen_of_heap s1.E 1
        have f2 : w5.frozen? ⟨wr.heap.size + 1, 2, none⟩ = false := Lib.frozen_of_heap s1.E 2
        have f3 : w5.frozen? ⟨wr.heap.size + 1, 3, none⟩ = false := Lib.frozen_of_heap s1.E 3
        have f4 : w5.frozen? ⟨wr.heap.size + 1, 4, none⟩ = false := Lib.frozen_of_heap s1.E 4
        go_wp2_with fail
        have s2 := s1.put (.int .i64 3) (.int .u32 0) (.slice none 0 0) (.slice none 0 0) (.slice Ak ks.length ck)
        have hok2 := Kd.R_grown hok1 (grown5 w5 (wr.heap.size + 1) (.int .i64 3) (.int .u32 0) (.slice none 0 0) (.slice none 0 0) (.slice Ak ks.length ck)) (fun k hk e => by have := Option.some.inj e; omega)
        generalize (((((w5.setCell ⟨wr.heap.size + 1, 0, none⟩ (.int .i64 3)).setCell ⟨wr.heap.size + 1, 1, none⟩ (.int .u32 0)).setCell ⟨wr.heap.size + 1, 2, none⟩ (.slice none 0 0)).setCell ⟨wr.heap.size + 1, 3, none⟩ (.slice none 0 0)).setCell ⟨wr.heap.size + 1, 4, none⟩ (.slice Ak ks.length ck)) = W6 at s2 hok2 ⊢
        clear e0 e1 e2 e3 e4 f0 f1 f2 f3 f4 s1 s0 hok1
        have hOk := okRow_is Hokr.out
        refine (ref_Forget w.heap.size w.heap.size vm L Ak ck ks W6 s2.I (fun W' hg => (Kd.R_reads' (Kd.R_grown hok2 hg (fun k hk e => by have := Option.some.inj e; have := s2.hn; omega))).2.2) (by have := hOk.Lw; omega) hOk.l4).mono ?_
        rintro e w7 ⟨rfl, vm', hI7, hg7⟩
        have s3 := s2.ref hI7 hg7
        have hk3 := Kd.R_grown hok2 hg7 (fun k hk e => by have := Option.some.inj e; have := s2.hn; omega)
        clear hI7 hg7 s2 hok2
        have h2 : Kd.R k101 101 w7 w.heap.size (fun q => wr.heap.size + 1 < q) (.slice none 0 0) ([] : List S101) := Kd.R_nil _ _ _ _ _
        have h3 : Kd.R k98 98 w7 w.heap.size (fun q => wr.heap.size + 1 < q) (.slice none 0 0) ([] : List S98) := Kd.R_nil _ _ _ _ _
        have h4 := hk3
        clear hk3
        have e0 : w7.cell? ⟨wr.heap.size + 1, 0, none⟩ = some (.int .i64 ((⟨3, 0, [], [], ks⟩ : S43)).f0) := Lib.cell_of_heap s3.E 0
        have e1 : w7.cell? ⟨wr.heap.size + 1, 1, none⟩ = some (.int .u32 ((⟨3, 0, [], [], ks⟩ : S43)).f1) := Lib.cell_of_heap s3.E 1
        have e2 : w7.cell? ⟨wr.heap.size + 1, 2, none⟩ = some (.slice none 0 0) := Lib.cell_of_heap s3.E 2
        have e3 : w7.cell? ⟨wr.heap.size + 1, 3, none⟩ = some (.slice none 0 0) := Lib.cell_of_heap s3.E 3
        have e4 : w7.cell? ⟨wr.heap.size + 1, 4, none⟩ = some (.slice Ak ks.length ck) := Lib.cell_of_heap s3.E 4
        have z9 : w7.cell? ⟨wr.heap.size, 9, none⟩ = some (.int .i64 xa) := Lib.cell_of_heap s3.X 9
        have z10 : w7.cell? ⟨wr.heap.size, 10, none⟩ = some (.int .i64 xh) := Lib.cell_of_heap s3.X 10
        by_cases ht : (k : Int) = a1
        · have t1 : ((k : Int) == a1) = true := beq_iff_eq.2 ht
          have Ht := Lib.hid ht
          clear ht
          go_wp2_with fail
          refine (turned_all ((⟨3, 0, [], [], ks⟩ : S43)) (.slice none 0 0) (.slice none 0 0) (.slice Ak ks.length ck) xa xh w7 w.heap.size (fun q => wr.heap.size + 1 < q) h2 h3 h4 s3.B.size (fun q hq => by have := s3.lt; omega) hOk.q0 hOk.q1 hOk.l3 hOk.s3 hOk.u3 (hT.below s3.B)).mono ?_
          rintro e w8 ⟨v3', rfl, hR8, ⟨hf2, hf4⟩, hb8⟩
          have s4 := s3.below hb8
          replace h2 := Kd.R_below h2 hb8
          replace h4 := Kd.R_below h4 hb8
          replace h2 : Kd.R k101 101 w8 w.heap.size (fun q => wr.heap.size + 1 < q) (.slice none 0 0) (turnE ((⟨3, 0, [], [], ks⟩ : S43)) xa xh).f2 := by rw [hf2]; exact h2
          replace h4 : Kd.R Kd.string 9 w8 w.heap.size (fun q => wr.heap.size + 1 < q) (.slice Ak ks.length ck) (turnE ((⟨3, 0, [], [], ks⟩ : S43)) xa xh).f4 := by rw [hf4]; exact h4
          clear h3 e0 e1 e2 e3 e4 z9 z10 hf2 hf4 hb8 s3 hOk t1
          have Hi : Hid ((if (k : Int) = a1 then turnE ((⟨3, 0, [], [], ks⟩ : S43)) xa xh else ((⟨3, 0, [], [], ks⟩ : S43))) = turnE ((⟨3, 0, [], [], ks⟩ : S43)) xa xh) := Lib.hid (if_pos Ht.out)
          have hqs0 := Hqs.out
          rw [Hi.out] at hqs0
          clear Hqs Hi
          have Hqs := Lib.hid hqs0
          clear hqs0
          generalize turnE ((⟨3, 0, [], [], ks⟩ : S43)) xa xh = ev at h2 h4 hR8 Hqs ⊢
          obtain ⟨Av3, cv3, ev3⟩ := Kd.R_slice hR8
          subst ev3
          have e0 : w8.cell? ⟨wr.heap.size + 1, 0, none⟩ = some _ := Lib.cell_of_heap s4.E 0
          have e1 : w8.cell? ⟨wr.heap.size + 1, 1, none⟩ = some _ := Lib.cell_of_heap s4.E 1
          have e2 : w8.cell? ⟨wr.heap.size + 1, 2, none⟩ = some _ := Lib.cell_of_heap s4.E 2
          have e3 : w8.cell? ⟨wr.heap.size + 1, 3, none⟩ = some _ := Lib.cell_of_heap s4.E 3
          have e4 : w8.cell? ⟨wr.heap.size + 1, 4, none⟩ = some _ := Lib.cell_of_heap s4.E 4
          have f0 : w8.frozen? ⟨wr.heap.size + 1, 0, none⟩ = false := Lib.frozen_of_heap s4.E 0
          have f1 : w8.frozen? ⟨wr.heap.size + 1, 1, none⟩ = false := Lib.frozen_of_heap s4.E 1
          have f2 : w8.frozen? ⟨wr.heap.size + 1, 2, none⟩ = false := Lib.frozen_of_heap s4.E 2
          have f3 : w8.frozen? ⟨wr.heap.size + 1, 3, none⟩ = false := Lib.frozen_of_heap s4.E 3
          have f4 : w8.frozen? ⟨wr.heap.size + 1, 4, none⟩ = false := Lib.frozen_of_heap s4.E 4
          have s5 := s4.put (.int .i64 ev.f0) (.int .u32 ev.f1) (.slice none 0 0) (.slice Av3 ev.f3.length cv3) (.slice Ak ks.length ck)
          have hg5 := grown5 w8 (wr.heap.size + 1) (.int .i64 ev.f0) (.int .u32 ev.f1) (.slice none 0 0) (.slice Av3 ev.f3.length cv3) (.slice Ak ks.length ck)
          replace h2 := Kd.R_grown h2 hg5 (fun k hk e => by have := Option.some.inj e; omega)
          have h3 := Kd.R_grown hR8 hg5 (fun k hk e => by have := Option.some.inj e; omega)
          replace h4 := Kd.R_grown h4 hg5 (fun k hk e => by have := Option.some.inj e; omega)
          clear s4 hg5 hR8
          go_wp2_with (at_builtin; refine Kd.R_append k43 (w0 := w) w.heap.size rfl (.tmp 80) (.tmp 82) 47 43 (.agg #[(.int .i64 0), (.int .u32 0), (.slice none 0 0), (.slice none 0 0), (.slice none 0 0)]) 88 rfl Tryd.underlying47 info43 rfl (by decide) (by decide) u6 out ev [.int .i64 (ev).f0, .int .u32 (ev).f1, .slice none 0 0, .slice Av3 ev.f3.length cv3, .slice Ak ks.length ck] (fun q => q ≠ w.heap.size) (fun q => wr.heap.size + 1 < q) rfl (by first | (go_simp; done) | (go_simp; rfl)) (k43_mkM _ _ _ ev h2 h3 h4) s5.apart (fun q hq => by have := s5.lt; have := s5.hn; omega) (Kd.R_mono s5.O (fun _ h => h.1)) s5.B s5.B.size ?aL ?_)
          case aL => (try rw [hol]); omega
          intro v1 w9 hR1 hb1 hg1 _
          have hI9 := RefIs.over s5.I s5.O (fun _ h => h.1) hg1
          have hqs := Hqs.out
          clear Hqs h2 h3 h4 s5
          go_wp2
          go_roundw
          case rel => exact ⟨k + 1, seq, vm', _, out ++ [ev], hlt, by omega, by simp, rfl, by simp [hol], hI9, hR1, hb1, ⟨hqs⟩⟩
          case measure => simp [intOf]; omega
        · have t1 : ((k : Int) == a1) = false := beq_eq_false_iff_ne.2 ht
          have Hi : Hid ((if (k : Int) = a1 then turnE ((⟨3, 0, [], [], ks⟩ : S43)) xa xh else ((⟨3, 0, [], [], ks⟩ : S43))) = ((⟨3, 0, [], [], ks⟩ : S43))) := Lib.hid (if_neg ht)
          clear ht z9 z10 hOk
          go_wp2_with (at_builtin; refine Kd.R_append k43 (w0 := w) w.heap.size rfl (.tmp 80) (.tmp 82) 47 43 (.agg #[(.int .i64 0), (.int .u32 0), (.slice none 0 0), (.slice none 0 0), (.slice none 0 0)]) 88 rfl Tryd.underlying47 info43 rfl (by decide) (by decide) u6 out (⟨3, 0, [], [], ks⟩ : S43) [.int .i64 ((⟨3, 0, [], [], ks⟩ : S43)).f0, .int .u32 ((⟨3, 0, [], [], ks⟩ : S43)).f1, .slice none 0 0, .slice none 0 0, .slice Ak ks.length ck] (fun q => q ≠ w.heap.size) (fun q => wr.heap.size + 1 < q) rfl (by first | (go_simp; done) | (go_simp; rfl)) (k43_mkM _ _ _ (⟨3, 0, [], [], ks⟩ : S43) h2 h3 h4) s3.apart (fun q hq => by have := s3.lt; have := s3.hn; omega) (Kd.R_mono s3.O (fun _ h => h.1)) s3.B s3.B.size ?aL ?_)
          case aL => (try rw [hol]); omega
          intro v1 w9 hR1 hb1 hg1 _
          have hI9 := RefIs.over s3.I s3.O (fun _ h => h.1) hg1
          have hqs := Hqs.out
          rw [Hi.out] at hqs
          clear Hqs h2 h3 h4 s3
          go_wp2
          go_roundw
          case rel => exact ⟨k + 1, seq, vm', _, out ++ [(⟨3, 0, [], [], ks⟩ : S43)], hlt, by omega, by simp, rfl, by simp [hol], hI9, hR1, hb1, ⟨hqs⟩⟩
          case measure => simp [intOf]; omega
      · by_cases q46 : q = 4 ∨ q = 5 ∨ q = 6
        · rw [if_neg q3, if_pos q46] at hrow
          obtain ⟨ks, hks, hrow⟩ := Option.bind_eq_some_iff.1 hrow
          simp only [Option.some.injEq, Prod.mk.injEq] at hrow
          obtain ⟨rfl, rfl, rfl⟩ := hrow
          have Hks := Lib.hid hks
          clear hks q3
          have hOk := okRow_is Hokr.out
          have z3 : w4.cell? ⟨wr.heap.size, 3, none⟩ = some (.slice A3 xk.length c3) := Lib.cell_of_heap s0.X 3
          rcases q46 with rfl | rfl | rfl
          all_goals (
            go_wp2_with fail
            refine (cachepothand_Keys.calls 1000 A3 c3 xk 5 ks _ (Kd.C_below g3 s0.B) HL3.out Hks.out (hT.below s0.B)).mono ?_
            rintro e w5 ⟨vk, rfl, hRk, hb5⟩
            have s1 := s0.below hb5
            obtain ⟨Ak, ck, ek⟩ := Kd.R_slice hRk
            subst ek
            obtain ⟨Av, cv, ev⟩ := Kd.R_slice s1.I.row
            subst ev
            clear z3 hb5 s0
            go_wp2_with fail
            refine (ref_Get w.heap.size Av cv L Ak ck ks w5 s1.I.cell0 (Kd.R_reads' s1.I.row).2.2 (Kd.R_reads' hRk).2.2 (by have := hOk.Lw; omega) (by have := hOk.l3; simp only [refGetF, List.length_map] at this; exact this)).mono ?_
            rintro e w6 ⟨vg, rfl, hRg, hb6⟩
            have s2 := s1.below hb6
            have h3 := Kd.R_lower (Kd.R_mono (Kd.R_bound hRg) (fun q hq => (by have := s1.lt; have := hq.2.1; omega : wr.heap.size + 1 < q))) s1.B.size
            clear hRg hRk hb6 s1
            obtain ⟨Ag, cg, eg⟩ := Kd.R_slice h3
            subst eg
            have e0 : w6.cell? ⟨wr.heap.size + 1, 0, none⟩ = some (.int .i64 0) := Lib.cell_of_heap s2.E 0
            have e1 : w6.cell? ⟨wr.heap.size + 1, 1, none⟩ = some (.int .u32 0) := Lib.cell_of_heap s2.E 1
            have e2 : w6.cell? ⟨wr.heap.size + 1, 2, none⟩ = some (.slice none 0 0) := Lib.cell_of_heap s2.E 2
            have e3 : w6.cell? ⟨wr.heap.size + 1, 3, none⟩ = some (.slice none 0 0) := Lib.cell_of_heap s2.E 3
            have e4 : w6.cell? ⟨wr.heap.size + 1, 4, none⟩ = some (.slice none 0 0) := Lib.cell_of_heap s2.E 4
            have f0 : w6.frozen? ⟨wr.heap.size + 1, 0, none⟩ = false := Lib.frozen_of_heap s2.E 0
            have f1 : w6.frozen? ⟨wr.heap.size + 1, 1, none⟩ = false := Lib.frozen_of_heap s2.E 1
            have f2 : w6.frozen? ⟨wr.heap.size + 1, 2, none⟩ = false := Lib.frozen_of_heap s2.E 2
            have f3 : w6.frozen? ⟨wr.heap.size + 1, 3, none⟩ = false := Lib.frozen_of_heap s2.E 3
            have f4 : w6.frozen? ⟨wr.heap.size + 1, 4, none⟩ = false := Lib.frozen_of_heap s2.E 4
            go_upto_region 22 with (fail)
            have s3 := s2.put (.int .i64 2) (.int .u32 0) (.slice none 0 0) (.slice Ag (refGetF L ks).length cg) (.slice none 0 0)
            have hg5 := grown5 w6 (wr.heap.size + 1) (.int .i64 2) (.int .u32 0) (.slice none 0 0) (.slice Ag (refGetF L ks).length cg) (.slice none 0 0)
            replace h3 := Kd.R_grown h3 hg5 (fun k hk e => by have := Option.some.inj e; omega)
            clear hg5 s2 e0 e1 e2 e3 e4 f0 f1 f2 f3 f4
            generalize (((((w6.setCell ⟨wr.heap.size + 1, 0, none⟩ (.int .i64 2)).setCell ⟨wr.heap.size + 1, 1, none⟩ (.int .u32 0)).setCell ⟨wr.heap.size + 1, 2, none⟩ (.slice none 0 0)).setCell ⟨wr.heap.size + 1, 3, none⟩ (.slice Ag (refGetF L ks).length cg)).setCell ⟨wr.heap.size + 1, 4, none⟩ (.slice none 0 0)) = w7 at s3 h3 ⊢
            have h2 : Kd.R k101 101 w7 w.heap.size (fun q => wr.heap.size + 1 < q) (.slice none 0 0) ([] : List S101) := Kd.R_nil _ _ _ _ _
            have h4 : Kd.R Kd.string 9 w7 w.heap.size (fun q => wr.heap.size + 1 < q) (.slice none 0 0) ([] : List ByteArray) := Kd.R_nil _ _ _ _ _
            have e0 : w7.cell? ⟨wr.heap.size + 1, 0, none⟩ = some (.int .i64 ((⟨2, 0, [], refGetF L ks, []⟩ : S43)).f0) := Lib.cell_of_heap s3.E 0
            have e1 : w7.cell? ⟨wr.heap.size + 1, 1, none⟩ = some (.int .u32 ((⟨2, 0, [], refGetF L ks, []⟩ : S43)).f1) := Lib.cell_of_heap s3.E 1
            have e2 : w7.cell? ⟨wr.heap.size + 1, 2, none⟩ = some (.slice none 0 0) := Lib.cell_of_heap s3.E 2
            have e3 : w7.cell? ⟨wr.heap.size + 1, 3, none⟩ = some (.slice Ag (refGetF L ks).length cg) := Lib.cell_of_heap s3.E 3
            have e4 : w7.cell? ⟨wr.heap.size + 1, 4, none⟩ = some (.slice none 0 0) := Lib.cell_of_heap s3.E 4
            have z9 : w7.cell? ⟨wr.heap.size, 9, none⟩ = some (.int .i64 xa) := Lib.cell_of_heap s3.X 9
            have z10 : w7.cell? ⟨wr.heap.size, 10, none⟩ = some (.int .i64 xh) := Lib.cell_of_heap s3.X 10
            by_cases ht : (k : Int) = a1
            · have t1 : ((k : Int) == a1) = true := beq_iff_eq.2 ht
              have Ht := Lib.hid ht
              clear ht
              go_wp2_with fail
              refine (turned_all ((⟨2, 0, [], refGetF L ks, []⟩ : S43)) (.slice none 0 0) (.slice Ag (refGetF L ks).length cg) (.slice none 0 0) xa xh w7 w.heap.size (fun q => wr.heap.size + 1 < q) h2 h3 h4 s3.B.size (fun q hq => by have := s3.lt; omega) hOk.q0 hOk.q1 hOk.l3 hOk.s3 hOk.u3 (hT.below s3.B)).mono ?_
              rintro e w8 ⟨v3', rfl, hR8, ⟨hf2, hf4⟩, hb8⟩
              have s4 := s3.below hb8
              replace h2 : Kd.R k101 101 w8 w.heap.size (fun q => wr.heap.size + 1 < q) (.slice none 0 0) (turnE ((⟨2, 0, [], refGetF L ks, []⟩ : S43)) xa xh).f2 := by rw [hf2]; exact Kd.R_below h2 hb8
              replace h4 : Kd.R Kd.string 9 w8 w.heap.size (fun q => wr.heap.size + 1 < q) (.slice none 0 0) (turnE ((⟨2, 0, [], refGetF L ks, []⟩ : S43)) xa xh).f4 := by rw [hf4]; exact Kd.R_below h4 hb8
              clear h3 e0 e1 e2 e3 e4 z9 z10 hf2 hf4 hb8 s3 hOk t1
              have Hi : Hid ((if (k : Int) = a1 then turnE ((⟨2, 0, [], refGetF L ks, []⟩ : S43)) xa xh else ((⟨2, 0, [], refGetF L ks, []⟩ : S43))) = turnE ((⟨2, 0, [], refGetF L ks, []⟩ : S43)) xa xh) := Lib.hid (if_pos Ht.out)
              have hqs0 := Hqs.out
              rw [Hi.out] at hqs0
              clear Hqs Hi
              have Hqs := Lib.hid hqs0
              clear hqs0
              generalize turnE ((⟨2, 0, [], refGetF L ks, []⟩ : S43)) xa xh = ev at h2 h4 hR8 Hqs ⊢
              obtain ⟨Av3, cv3, ev3⟩ := Kd.R_slice hR8
              subst ev3
              have e0 : w8.cell? ⟨wr.heap.size + 1, 0, none⟩ = some _ := Lib.cell_of_heap s4.E 0
              have e1 : w8.cell? ⟨wr.heap.size + 1, 1, none⟩ = some _ := Lib.cell_of_heap s4.E 1
              have e2 : w8.cell? ⟨wr.heap.size + 1, 2, none⟩ = some _ := Lib.cell_of_heap s4.E 2
              have e3 : w8.cell? ⟨wr.heap.size + 1, 3, none⟩ = some _ := Lib.cell_of_heap s4.E 3
              have e4 : w8.cell? ⟨wr.heap.size + 1, 4, none⟩ = some _ := Lib.cell_of_heap s4.E 4
              have f0 : w8.frozen? ⟨wr.heap.size + 1, 0, none⟩ = false := Lib.frozen_of_heap s4.E 0
              have f1 : w8.frozen? ⟨wr.heap.size + 1, 1, none⟩ = false := Lib.frozen_of_heap s4.E 1
              have f2 : w8.frozen? ⟨wr.heap.size + 1, 2, none⟩ = false := Lib.frozen_of_heap s4.E 2
              have f3 : w8.frozen? ⟨wr.heap.size + 1, 3, none⟩ = false := Lib.frozen_of_heap s4.E 3
              have f4 : w8.frozen? ⟨wr.heap.size + 1, 4, none⟩ = false := Lib.frozen_of_heap s4.E 4
              have s5 := s4.put (.int .i64 ev.f0) (.int .u32 ev.f1) (.slice none 0 0) (.slice Av3 ev.f3.length cv3) (.slice none 0 0)
              have hg5 := grown5 w8 (wr.heap.size + 1) (.int .i64 ev.f0) (.int .u32 ev.f1) (.slice none 0 0) (.slice Av3 ev.f3.length cv3) (.slice none 0 0)
              replace h2 := Kd.R_grown h2 hg5 (fun k hk e => by have := Option.some.inj e; omega)
              have h3 := Kd.R_grown hR8 hg5 (fun k hk e => by have := Option.some.inj e; omega)
              replace h4 := Kd.R_grown h4 hg5 (fun k hk e => by have := Option.some.inj e; omega)
              clear s4 hg5 hR8
              go_wp2_with (at_builtin; refine Kd.R_append k43 (w0 := w) w.heap.size rfl (.tmp 80) (.tmp 82) 47 43 (.agg #[(.int .i64 0), (.int .u32 0), (.slice none 0 0), (.slice none 0 0), (.slice none 0 0)]) 88 rfl Tryd.underlying47 info43 rfl (by decide) (by decide) u6 out (ev) [.int .i64 (ev).f0, .int .u32 (ev).f1, .slice none 0 0, .slice Av3 ev.f3.length cv3, .slice none 0 0] (fun q => q ≠ w.heap.size) (fun q => wr.heap.size + 1 < q) rfl (by first | (go_simp; done) | (go_simp; rfl)) (k43_mkM _ _ _ (ev) h2 h3 h4) s5.apart (fun q hq => by have := s5.lt; have := s5.hn; omega) (Kd.R_mono s5.O (fun _ h => h.1)) s5.B s5.B.size ?aL ?_)
              case aL => (try rw [hol]); omega
              intro v1 w9 hR1 hb1 hg1 _
              have hI9 := RefIs.over s5.I s5.O (fun _ h => h.1) hg1
              have hqs := Hqs.out
              clear Hqs h2 h3 h4 s5
              go_wp2
              go_roundw
              case rel => exact ⟨k + 1, seq, _, _, out ++ [ev], hlt, by omega, by simp, rfl, by simp [hol], hI9, hR1, hb1, ⟨hqs⟩⟩
              case measure => simp [intOf]; omega
            · have t1 : ((k : Int) == a1) = false := beq_eq_false_iff_ne.2 ht
              have Hi : Hid ((if (k : Int) = a1 then turnE ((⟨2, 0, [], refGetF L ks, []⟩ : S43)) xa xh else ((⟨2, 0, [], refGetF L ks, []⟩ : S43))) = ((⟨2, 0, [], refGetF L ks, []⟩ : S43))) := Lib.hid (if_neg ht)
              clear ht z9 z10 hOk
              go_wp2_with (at_builtin; refine Kd.R_append k43 (w0 := w) w.heap.size rfl (.tmp 80) (.tmp 82) 47 43 (.agg #[(.int .i64 0), (.int .u32 0), (.slice none 0 0), (.slice none 0 0), (.slice none 0 0)]) 88 rfl Tryd.underlying47 info43 rfl (by decide) (by decide) u6 out ((⟨2, 0, [], refGetF L ks, []⟩ : S43)) [.int .i64 ((⟨2, 0, [], refGetF L ks, []⟩ : S43)).f0, .int .u32 ((⟨2, 0, [], refGetF L ks, []⟩ : S43)).f1, .slice none 0 0, .slice Ag (refGetF L ks).length cg, .slice none 0 0] (fun q => q ≠ w.heap.size) (fun q => wr.heap.size + 1 < q) rfl (by first | (go_simp; done) | (go_simp; rfl)) (k43_mkM _ _ _ ((⟨2, 0, [], refGetF L ks, []⟩ : S43)) h2 h3 h4) s3.apart (fun q hq => by have := s3.lt; have := s3.hn; omega) (Kd.R_mono s3.O (fun _ h => h.1)) s3.B s3.B.size ?aL ?_)
              case aL => (try rw [hol]); omega
              intro v1 w9 hR1 hb1 hg1 _
              have hI9 := RefIs.over s3.I s3.O (fun _ h => h.1) hg1
              have hqs := Hqs.out
              rw [Hi.out] at hqs
              clear Hqs h2 h3 h4 s3
              go_wp2
              go_roundw
              case rel => exact ⟨k + 1, seq, _, _, out ++ [(⟨2, 0, [], refGetF L ks, []⟩ : S43)], hlt, by omega, by simp, rfl, by simp [hol], hI9, hR1, hb1, ⟨hqs⟩⟩
              case measure => simp [intOf]; omega)
        · by_cases q7 : q = 7
          · subst q7
            rw [if_neg q3, if_neg q46, if_pos rfl] at hrow
            obtain ⟨⟨r1, r2, r3, r4, r5⟩, hks, hrow⟩ := Option.bind_eq_some_iff.1 hrow
            simp only [Option.some.injEq, Prod.mk.injEq] at hrow
            obtain ⟨rfl, rfl, rfl⟩ := hrow
            have Hks := Lib.hid hks
            clear hks q3 q46
            have hOk := okRow_is Hokr.out
            have z4 : w4.cell? ⟨wr.heap.size, 4, none⟩ = some (.int .i64 y0) := Lib.cell_of_heap s0.X 4
            have z5 : w4.cell? ⟨wr.heap.size, 5, none⟩ = some (.int .u32 y1) := Lib.cell_of_heap s0.X 5
            have z6 : w4.cell? ⟨wr.heap.size, 6, none⟩ = some (.slice A6 y2.length c6) := Lib.cell_of_heap s0.X 6
            have z7 : w4.cell? ⟨wr.heap.size, 7, none⟩ = some (.slice A7 y3.length c7) := Lib.cell_of_heap s0.X 7
            have z8 : w4.cell? ⟨wr.heap.size, 8, none⟩ = some (.slice A8 y4.length c8) := Lib.cell_of_heap s0.X 8
            go_wp2_with fail
            refine (cachepotlaw21_short.calls 1000 y0 y1 A6 c6 y2 A7 c7 y3 A8 c8 y4 r1 r2 r3 r4 r5 _ (Kd.C_below g6 s0.B) HL6.out (Kd.C_below g7 s0.B) HL7.out (Kd.C_below g8 s0.B) HL8.out Hks.out).mono ?_
            rintro e w6 ⟨v2, v3, v4, rfl, hR2, hR3, hR4, hb6⟩
            have s2 := s0.below hb6
            have h2 := Kd.R_lower (Kd.R_mono (Kd.R_bound hR2) (fun q hq => (by have := s0.lt; have := hq.2.1; omega : wr.heap.size + 1 < q))) s0.B.size
            have h3 := Kd.R_lower (Kd.R_mono (Kd.R_bound hR3) (fun q hq => (by have := s0.lt; have := hq.2.1; omega : wr.heap.size + 1 < q))) s0.B.size
            have h4 := Kd.R_lower (Kd.R_mono (Kd.R_bound hR4) (fun q hq => (by have := s0.lt; have := hq.2.1; omega : wr.heap.size + 1 < q))) s0.B.size
            clear hR2 hR3 hR4 hb6 s0 z4 z5 z6 z7 z8
            obtain ⟨Ae, ce, ee⟩ := Kd.R_slice h2
            subst ee
            obtain ⟨Af, cf, ef⟩ := Kd.R_slice h3
            subst ef
            obtain ⟨Ag, cg, eg⟩ := Kd.R_slice h4
            subst eg
            have e0 : w6.cell? ⟨wr.heap.size + 1, 0, none⟩ = some (.int .i64 0) := Lib.cell_of_heap s2.E 0
            have e1 : w6.cell? ⟨wr.heap.size + 1, 1, none⟩ = some (.int .u32 0) := Lib.cell_of_heap s2.E 1
            have e2 : w6.cell? ⟨wr.heap.size + 1, 2, none⟩ = some (.slice none 0 0) := Lib.cell_of_heap s2.E 2
            have e3 : w6.cell? ⟨wr.heap.size + 1, 3, none⟩ = some (.slice none 0 0) := Lib.cell_of_heap s2.E 3
            have e4 : w6.cell? ⟨wr.heap.size + 1, 4, none⟩ = some (.slice none 0 0) := Lib.cell_of_heap s2.E 4
            have f0 : w6.frozen? ⟨wr.heap.size + 1, 0, none⟩ = false := Lib.frozen_of_heap s2.E 0
            have f1 : w6.frozen? ⟨wr.heap.size + 1, 1, none⟩ = false := Lib.frozen_of_heap s2.E 1
            have f2 : w6.frozen? ⟨wr.heap.size + 1, 2, none⟩ = false := Lib.frozen_of_heap s2.E 2
            have f3 : w6.frozen? ⟨wr.heap.size + 1, 3, none⟩ = false := Lib.frozen_of_heap s2.E 3
            have f4 : w6.frozen? ⟨wr.heap.size + 1, 4, none⟩ = false := Lib.frozen_of_heap s2.E 4
            go_upto_region 22 with (fail)
            have s3 := s2.put (.int .i64 r1) (.int .u32 r2) (.slice Ae r3.length ce) (.slice Af r4.length cf) (.slice Ag r5.length cg)
            have hg5 := grown5 w6 (wr.heap.size + 1) (.int .i64 r1) (.int .u32 r2) (.slice Ae r3.length ce) (.slice Af r4.length cf) (.slice Ag r5.length cg)
            replace h2 := Kd.R_grown h2 hg5 (fun k hk e => by have := Option.some.inj e; omega)
            replace h3 := Kd.R_grown h3 hg5 (fun k hk e => by have := Option.some.inj e; omega)
            replace h4 := Kd.R_grown h4 hg5 (fun k hk e => by have := Option.some.inj e; omega)
            clear hg5 s2 e0 e1 e2 e3 e4 f0 f1 f2 f3 f4
            generalize (((((w6.setCell ⟨wr.heap.size + 1, 0, none⟩ (.int .i64 r1)).setCell ⟨wr.heap.size + 1, 1, none⟩ (.int .u32 r2)).setCell ⟨wr.heap.size + 1, 2, none⟩ (.slice Ae r3.length ce)).setCell ⟨wr.heap.size + 1, 3, none⟩ (.slice Af r4.length cf)).setCell ⟨wr.heap.size + 1, 4, none⟩ (.slice Ag r5.length cg)) = w7 at s3 h2 h3 h4 ⊢
            have e0 : w7.cell? ⟨wr.heap.size + 1, 0, none⟩ = some (.int .i64 ((⟨r1, r2, r3, r4, r5⟩ : S43)).f0) := Lib.cell_of_heap s3.E 0
            have e1 : w7.cell? ⟨wr.heap.size + 1, 1, none⟩ = some (.int .u32 ((⟨r1, r2, r3, r4, r5⟩ : S43)).f1) := Lib.cell_of_heap s3.E 1
            have e2 : w7.cell? ⟨wr.heap.size + 1, 2, none⟩ = some (.slice Ae r3.length ce) := Lib.cell_of_heap s3.E 2
            have e3 : w7.cell? ⟨wr.heap.size + 1, 3, none⟩ = some (.slice Af r4.length cf) := Lib.cell_of_heap s3.E 3
            have e4 : w7.cell? ⟨wr.heap.size + 1, 4, none⟩ = some (.slice Ag r5.length cg) := Lib.cell_of_heap s3.E 4
            have z9 : w7.cell? ⟨wr.heap.size, 9, none⟩ = some (.int .i64 xa) := Lib.cell_of_heap s3.X 9
            have z10 : w7.cell? ⟨wr.heap.size, 10, none⟩ = some (.int .i64 xh) := Lib.cell_of_heap s3.X 10
            by_cases ht : (k : Int) = a1
            · have t1 : ((k : Int) == a1) = true := beq_iff_eq.2 ht
              have Ht := Lib.hid ht
              clear ht
              go_wp2_with fail
              refine (turned_all ((⟨r1, r2, r3, r4, r5⟩ : S43)) (.slice Ae r3.length ce) (.slice Af r4.length cf) (.slice Ag r5.length cg) xa xh w7 w.heap.size (fun q => wr.heap.size + 1 < q) h2 h3 h4 s3.B.size (fun q hq => by have := s3.lt; omega) hOk.q0 hOk.q1 hOk.l3 hOk.s3 hOk.u3 (hT.below s3.B)).mono ?_
              rintro e w8 ⟨v3', rfl, hR8, ⟨hf2, hf4⟩, hb8⟩
              have s4 := s3.below hb8
              replace h2 : Kd.R k101 101 w8 w.heap.size (fun q => wr.heap.size + 1 < q) (.slice Ae r3.length ce) (turnE ((⟨r1, r2, r3, r4, r5⟩ : S43)) xa xh).f2 := by rw [hf2]; exact Kd.R_below h2 hb8
              replace h4 : Kd.R Kd.string 9 w8 w.heap.size (fun q => wr.heap.size + 1 < q) (.slice Ag r5.length cg) (turnE ((⟨r1, r2, r3, r4, r5⟩ : S43)) xa xh).f4 := by rw [hf4]; exact Kd.R_below h4 hb8
              clear h3 e0 e1 e2 e3 e4 z9 z10 hf2 hf4 hb8 s3 hOk t1
              have Hi : Hid ((if (k : Int) = a1 then turnE ((⟨r1, r2, r3, r4, r5⟩ : S43)) xa xh else ((⟨r1, r2, r3, r4, r5⟩ : S43))) = turnE ((⟨r1, r2, r3, r4, r5⟩ : S43)) xa xh) := Lib.hid (if_pos Ht.out)
              have hqs0 := Hqs.out
              rw [Hi.out] at hqs0
              clear Hqs Hi
              have Hqs := Lib.hid hqs0
              clear hqs0
              generalize turnE ((⟨r1, r2, r3, r4, r5⟩ : S43)) xa xh = ev at h2 h4 hR8 Hqs ⊢
              obtain ⟨Av3, cv3, ev3⟩ := Kd.R_slice hR8
              subst ev3
              have e0 : w8.cell? ⟨wr.heap.size + 1, 0, none⟩ = some _ := Lib.cell_of_heap s4.E 0
              have e1 : w8.cell? ⟨wr.heap.size + 1, 1, none⟩ = some _ := Lib.cell_of_heap s4.E 1
              have e2 : w8.cell? ⟨wr.heap.size + 1, 2, none⟩ = some _ := Lib.cell_of_heap s4.E 2
              have e3 : w8.cell? ⟨wr.heap.size + 1, 3, none⟩ = some _ := Lib.cell_of_heap s4.E 3
              have e4 : w8.cell? ⟨wr.heap.size + 1, 4, none⟩ = some _ := Lib.cell_of_heap s4.E 4
              have f0 : w8.frozen? ⟨wr.heap.size + 1, 0, none⟩ = false := Lib.frozen_of_heap s4.E 0
              have f1 : w8.frozen? ⟨wr.heap.size + 1, 1, none⟩ = false := Lib.frozen_of_heap s4.E 1
              have f2 : w8.frozen? ⟨wr.heap.size + 1, 2, none⟩ = false := Lib.frozen_of_heap s4.E 2
              have f3 : w8.frozen? ⟨wr.heap.size + 1, 3, none⟩ = false := Lib.frozen_of_heap s4.E 3
              have f4 : w8.frozen? ⟨wr.heap.size + 1, 4, none⟩ = false := Lib.frozen_of_heap s4.E 4
              have s5 := s4.put (.int .i64 ev.f0) (.int .u32 ev.f1) (.slice Ae r3.length ce) (.slice Av3 ev.f3.length cv3) (.slice Ag r5.length cg)
              have hg5 := grown5 w8 (wr.heap.size + 1) (.int .i64 ev.f0) (.int .u32 ev.f1) (.slice Ae r3.length ce) (.slice Av3 ev.f3.length cv3) (.slice Ag r5.length cg)
              replace h2 := Kd.R_grown h2 hg5 (fun k hk e => by have := Option.some.inj e; omega)
              have h3 := Kd.R_grown hR8 hg5 (fun k hk e => by have := Option.some.inj e; omega)
              replace h4 := Kd.R_grown h4 hg5 (fun k hk e => by have := Option.some.inj e; omega)
              clear s4 hg5 hR8
              go_wp2_with (at_builtin; refine Kd.R_append k43 (w0 := w) w.heap.size rfl (.tmp 80) (.tmp 82) 47 43 (.agg #[(.int .i64 0), (.int .u32 0), (.slice none 0 0), (.slice none 0 0), (.slice none 0 0)]) 88 rfl Tryd.underlying47 info43 rfl (by decide) (by decide) u6 out (ev) [.int .i64 (ev).f0, .int .u32 (ev).f1, .slice Ae r3.length ce, .slice Av3 ev.f3.length cv3, .slice Ag r5.length cg] (fun q => q ≠ w.heap.size) (fun q => wr.heap.size + 1 < q) rfl (by first | (go_simp; done) | (go_simp; rfl)) (k43_mkM _ _ _ (ev) h2 h3 h4) s5.apart (fun q hq => by have := s5.lt; have := s5.hn; omega) (Kd.R_mono s5.O (fun _ h => h.1)) s5.B s5.B.size ?aL ?_)
              case aL => (try rw [hol]); omega
              intro v1 w9 hR1 hb1 hg1 _
              have hI9 := RefIs.over s5.I s5.O (fun _ h => h.1) hg1
              have hqs := Hqs.out
              clear Hqs h2 h3 h4 s5
              go_wp2
              go_roundw
              case rel => exact ⟨k + 1, seq, _, _, out ++ [ev], hlt, by omega, by simp, rfl, by simp [hol], hI9, hR1, hb1, ⟨hqs⟩⟩
              case measure => simp [intOf]; omega
            · have t1 : ((k : Int) == a1) = false := beq_eq_false_iff_ne.2 ht
              have Hi : Hid ((if (k : Int) = a1 then turnE ((⟨r1, r2, r3, r4, r5⟩ : S43)) xa xh else ((⟨r1, r2, r3, r4, r5⟩ : S43))) = ((⟨r1, r2, r3, r4, r5⟩ : S43))) := Lib.hid (if_neg ht)
              clear ht z9 z10 hOk
              go_wp2_with (at_builtin; refine Kd.R_append k43 (w0 := w) w.heap.size rfl (.tmp 80) (.tmp 82) 47 43 (.agg #[(.int .i64 0), (.int .u32 0), (.slice none 0 0), (.slice none 0 0), (.slice none 0 0)]) 88 rfl Tryd.underlying47 info43 rfl (by decide) (by decide) u6 out ((⟨r1, r2, r3, r4, r5⟩ : S43)) [.int .i64 ((⟨r1, r2, r3, r4, r5⟩ : S43)).f0, .int .u32 ((⟨r1, r2, r3, r4, r5⟩ : S43)).f1, .slice Ae r3.length ce, .slice Af r4.length cf, .slice Ag r5.length cg] (fun q => q ≠ w.heap.size) (fun q => wr.heap.size + 1 < q) rfl (by first | (go_simp; done) | (go_simp; rfl)) (k43_mkM _ _ _ ((⟨r1, r2, r3, r4, r5⟩ : S43)) h2 h3 h4) s3.apart (fun q hq => by have := s3.lt; have := s3.hn; omega) (Kd.R_mono s3.O (fun _ h => h.1)) s3.B s3.B.size ?aL ?_)
              case aL => (try rw [hol]); omega
              intro v1 w9 hR1 hb1 hg1 _
              have hI9 := RefIs.over s3.I s3.O (fun _ h => h.1) hg1
              have hqs := Hqs.out
              rw [Hi.out] at hqs
              clear Hqs h2 h3 h4 s3
              go_wp2
              go_roundw
              case rel => exact ⟨k + 1, seq, _, _, out ++ [(⟨r1, r2, r3, r4, r5⟩ : S43)], hlt, by omega, by simp, rfl, by simp [hol], hI9, hR1, hb1, ⟨hqs⟩⟩
              case measure => simp [intOf]; omega
          · rw [if_neg q3, if_neg q46, if_neg q7] at hrow
            obtain ⟨ws, hks, hrow⟩ := Option.bind_eq_some_iff.1 hrow
            simp only [Option.some.injEq, Prod.mk.injEq] at hrow
            obtain ⟨rfl, rfl, rfl⟩ := hrow
            have Hks := Lib.hid hks
            have hOk := okRow_is Hokr.out
            have b3 : (q == 3) = false := beq_eq_false_iff_ne.2 q3
            have b4 : (q == 4) = false := beq_eq_false_iff_ne.2 (fun e => q46 (.inl e))
            have b5 : (q == 5) = false := beq_eq_false_iff_ne.2 (fun e => q46 (.inr (.inl e)))
            have b6 : (q == 6) = false := beq_eq_false_iff_ne.2 (fun e => q46 (.inr (.inr e)))
            have b7 : (q == 7) = false := beq_eq_false_iff_ne.2 q7
            clear hks q3 q46 q7
            have z1 : w4.cell? ⟨wr.heap.size, 1, none⟩ = some (.int .u32 xs) := Lib.cell_of_heap s0.X 1
            have z2 : w4.cell? ⟨wr.heap.size, 2, none⟩ = some (.slice A2 xl.length c2) := Lib.cell_of_heap s0.X 2
            go_wp2_with fail
            refine (cachepothand_Writes.calls 1000 A2 c2 xl 5 ws _ (Kd.C_below g2 s0.B) HL2.out Hks.out (hT.below s0.B)).mono ?_
            rintro e w5 ⟨vw, rfl, hRw, hb5⟩
            have s1 := s0.below hb5
            have h2 := Kd.R_lower (Kd.R_mono (Kd.R_bound hRw) (fun q hq => (by have := s0.lt; have := hq.2.1; omega : wr.heap.size + 1 < q))) s0.B.size
            clear hRw hb5 s0 z1 z2
            obtain ⟨Aw, cw, ew⟩ := Kd.R_slice h2
            subst ew
            have e0 : w5.cell? ⟨wr.heap.size + 1, 0, none⟩ = some (.int .i64 0) := Lib.cell_of_heap s1.E 0
            have e1 : w5.cell? ⟨wr.heap.size + 1, 1, none⟩ = some (.int .u32 0) := Lib.cell_of_heap s1.E 1
            have e2 : w5.cell? ⟨wr.heap.size + 1, 2, none⟩ = some (.slice none 0 0) := Lib.cell_of_heap s1.E 2
            have e3 : w5.cell? ⟨wr.heap.size + 1, 3, none⟩ = some (.slice none 0 0) := Lib.cell_of_heap s1.E 3
            have e4 : w5.cell? ⟨wr.heap.size + 1, 4, none⟩ = some (.slice none 0 0) := Lib.cell_of_heap s1.E 4
            have f0 : w5.frozen? ⟨wr.heap.size + 1, 0, none⟩ = false := Lib.frozen_of_heap s1.E 0
            have f1 : w5.frozen? ⟨wr.heap.size + 1, 1, none⟩ = false := Lib.frozen_of_heap s1.E 1
            have f2 : w5.frozen? ⟨wr.heap.size + 1, 2, none⟩ = false := Lib.frozen_of_heap s1.E 2
            have f3 : w5.frozen? ⟨wr.heap.size + 1, 3, none⟩ = false := Lib.frozen_of_heap s1.E 3
            have f4 : w5.frozen? ⟨wr.heap.size + 1, 4, none⟩ = false := Lib.frozen_of_heap s1.E 4
            rw [show (seq + (1 + Int.tmod xs 3) % 4294967296) % 4294967296 = nextSeq seq xs from rfl]
            generalize nextSeq seq xs = ns at hOk Hqs Hokr ⊢
            go_wp2_with fail
            have s2 := s1.put (.int .i64 1) (.int .u32 ns) (.slice Aw ws.length cw) (.slice none 0 0) (.slice none 0 0)
            have hg5 := grown5 w5 (wr.heap.size + 1) (.int .i64 1) (.int .u32 ns) (.slice Aw ws.length cw) (.slice none 0 0) (.slice none 0 0)
            replace h2 := Kd.R_grown h2 hg5 (fun k hk e => by have := Option.some.inj e; omega)
            clear hg5 s1 e0 e1 e2 e3 e4 f0 f1 f2 f3 f4
            generalize (((((w5.setCell ⟨wr.heap.size + 1, 0, none⟩ (.int .i64 1)).setCell ⟨wr.heap.size + 1, 1, none⟩ (.int .u32 ns)).setCell ⟨wr.heap.size + 1, 2, none⟩ (.slice Aw ws.length cw)).setCell ⟨wr.heap.size + 1, 3, none⟩ (.slice none 0 0)).setCell ⟨wr.heap.size + 1, 4, none⟩ (.slice none 0 0)) = W6 at s2 h2 ⊢
            refine (ref_Commit w.heap.size w.heap.size vm L ns Aw cw ws W6 s2.I (fun W' hg => (Kd.R_reads' (Kd.R_grown h2 hg (fun k hk e => by have := Option.some.inj e; have := s2.hn; omega))).2.2) hOk.Lw hOk.sL hOk.sw).mono ?_
            rintro e w7 ⟨rfl, vm', hI7, hg7⟩
            have s3 := s2.ref hI7 hg7
            replace h2 := Kd.R_grown h2 hg7 (fun k hk e => by have := Option.some.inj e; have := s2.hn; omega)
            clear hI7 hg7 s2
            have h3 : Kd.R k98 98 w7 w.heap.size (fun q => wr.heap.size + 1 < q) (.slice none 0 0) ([] : List S98) := Kd.R_nil _ _ _ _ _
            have h4 : Kd.R Kd.string 9 w7 w.heap.size (fun q => wr.heap.size + 1 < q) (.slice none 0 0) ([] : List ByteArray) := Kd.R_nil _ _ _ _ _
            have e0 : w7.cell? ⟨wr.heap.size + 1, 0, none⟩ = some (.int .i64 ((⟨1, ns, ws, [], []⟩ : S43)).f0) := Lib.cell_of_heap s3.E 0
            have e1 : w7.cell? ⟨wr.heap.size + 1, 1, none⟩ = some (.int .u32 ((⟨1, ns, ws, [], []⟩ : S43)).f1) := Lib.cell_of_heap s3.E 1
            have e2 : w7.cell? ⟨wr.heap.size + 1, 2, none⟩ = some (.slice Aw ws.length cw) := Lib.cell_of_heap s3.E 2
            have e3 : w7.cell? ⟨wr.heap.size + 1, 3, none⟩ = some (.slice none 0 0) := Lib.cell_of_heap s3.E 3
            have e4 : w7.cell? ⟨wr.heap.size + 1, 4, none⟩ = some (.slice none 0 0) := Lib.cell_of_heap s3.E 4
            have z9 : w7.cell? ⟨wr.heap.size, 9, none⟩ = some (.int .i64 xa) := Lib.cell_of_heap s3.X 9
            have z10 : w7.cell? ⟨wr.heap.size, 10, none⟩ = some (.int .i64 xh) := Lib.cell_of_heap s3.X 10
            by_cases ht : (k : Int) = a1
            · have t1 : ((k : Int) == a1) = true := beq_iff_eq.2 ht
              have Ht := Lib.hid ht
              clear ht
              go_wp2_with fail
              refine (turned_all ((⟨1, ns, ws, [], []⟩ : S43)) (.slice Aw ws.length cw) (.slice none 0 0) (.slice none 0 0) xa xh w7 w.heap.size (fun q => wr.heap.size + 1 < q) h2 h3 h4 s3.B.size (fun q hq => by have := s3.lt; omega) hOk.q0 hOk.q1 hOk.l3 hOk.s3 hOk.u3 (hT.below s3.B)).mono ?_
              rintro e w8 ⟨v3', rfl, hR8, ⟨hf2, hf4⟩, hb8⟩
              have s4 := s3.below hb8
              replace h2 : Kd.R k101 101 w8 w.heap.size (fun q => wr.heap.size + 1 < q) (.slice Aw ws.length cw) (turnE ((⟨1, ns, ws, [], []⟩ : S43)) xa xh).f2 := by rw [hf2]; exact Kd.R_below h2 hb8
              replace h4 : Kd.R Kd.string 9 w8 w.heap.size (fun q => wr.heap.size + 1 < q) (.slice none 0 0) (turnE ((⟨1, ns, ws, [], []⟩ : S43)) xa xh).f4 := by rw [hf4]; exact Kd.R_below h4 hb8
              clear h3 e0 e1 e2 e3 e4 z9 z10 hf2 hf4 hb8 s3 hOk t1
              have Hi : Hid ((if (k : Int) = a1 then turnE ((⟨1, ns, ws, [], []⟩ : S43)) xa xh else ((⟨1, ns, ws, [], []⟩ : S43))) = turnE ((⟨1, ns, ws, [], []⟩ : S43)) xa xh) := Lib.hid (if_pos Ht.out)
              have hqs0 := Hqs.out
              rw [Hi.out] at hqs0
              clear Hqs Hi
              have Hqs := Lib.hid hqs0
              clear hqs0
              generalize turnE ((⟨1, ns, ws, [], []⟩ : S43)) xa xh = ev at h2 h4 hR8 Hqs ⊢
              obtain ⟨Av3, cv3, ev3⟩ := Kd.R_slice hR8
              subst ev3
              have e0 : w8.cell? ⟨wr.heap.size + 1, 0, none⟩ = some _ := Lib.cell_of_heap s4.E 0
              have e1 : w8.cell? ⟨wr.heap.size + 1, 1, none⟩ = some _ := Lib.cell_of_heap s4.E 1
              have e2 : w8.cell? ⟨wr.heap.size + 1, 2, none⟩ = some _ := Lib.cell_of_heap s4.E 2
              have e3 : w8.cell? ⟨wr.heap.size + 1, 3, none⟩ = some _ := Lib.cell_of_heap s4.E 3
              have e4 : w8.cell? ⟨wr.heap.size + 1, 4, none⟩ = some _ := Lib.cell_of_heap s4.E 4
              have f0 : w8.frozen? ⟨wr.heap.size + 1, 0, none⟩ = false := Lib.frozen_of_heap s4.E 0
              have f1 : w8.frozen? ⟨wr.heap.size + 1, 1, none⟩ = false := Lib.frozen_of_heap s4.E 1
              have f2 : w8.frozen? ⟨wr.heap.size + 1, 2, none⟩ = false := Lib.frozen_of_heap s4.E 2
              have f3 : w8.frozen? ⟨wr.heap.size + 1, 3, none⟩ = false := Lib.frozen_of_heap s4.E 3
              have f4 : w8.frozen? ⟨wr.heap.size + 1, 4, none⟩ = false := Lib.frozen_of_heap s4.E 4
              have s5 := s4.put (.int .i64 ev.f0) (.int .u32 ev.f1) (.slice Aw ws.length cw) (.slice Av3 ev.f3.length cv3) (.slice none 0 0)
              have hg5 := grown5 w8 (wr.heap.size + 1) (.int .i64 ev.f0) (.int .u32 ev.f1) (.slice Aw ws.length cw) (.slice Av3 ev.f3.length cv3) (.slice none 0 0)
              replace h2 := Kd.R_grown h2 hg5 (fun k hk e => by have := Option.some.inj e; omega)
              have h3 := Kd.R_grown hR8 hg5 (fun k hk e => by have := Option.some.inj e; omega)
              replace h4 := Kd.R_grown h4 hg5 (fun k hk e => by have := Option.some.inj e; omega)
              clear s4 hg5 hR8
              go_wp2_with (at_builtin; refine Kd.R_append k43 (w0 := w) w.heap.size rfl (.tmp 80) (.tmp 82) 47 43 (.agg #[(.int .i64 0), (.int .u32 0), (.slice none 0 0), (.slice none 0 0), (.slice none 0 0)]) 88 rfl Tryd.underlying47 info43 rfl (by decide) (by decide) u6 out (ev) [.int .i64 (ev).f0, .int .u32 (ev).f1, .slice Aw ws.length cw, .slice Av3 ev.f3.length cv3, .slice none 0 0] (fun q => q ≠ w.heap.size) (fun q => wr.heap.size + 1 < q) rfl (by first | (go_simp; done) | (go_simp; rfl)) (k43_mkM _ _ _ (ev) h2 h3 h4) s5.apart (fun q hq => by have := s5.lt; have := s5.hn; omega) (Kd.R_mono s5.O (fun _ h => h.1)) s5.B s5.B.size ?aL ?_)
              case aL => (try rw [hol]); omega
              intro v1 w9 hR1 hb1 hg1 _
              have hI9 := RefIs.over s5.I s5.O (fun _ h => h.1) hg1
              have hqs := Hqs.out
              clear Hqs h2 h3 h4 s5
              go_wp2
              go_roundw
              case rel => exact ⟨k + 1, ns, _, _, out ++ [ev], hlt, by omega, by simp, rfl, by simp [hol], hI9, hR1, hb1, ⟨hqs⟩⟩
              case measure => simp [intOf]; omega
            · have t1 : ((k : Int) == a1) = false := beq_eq_false_iff_ne.2 ht
              have Hi : Hid ((if (k : Int) = a1 then turnE ((⟨1, ns, ws, [], []⟩ : S43)) xa xh else ((⟨1, ns, ws, [], []⟩ : S43))) = ((⟨1, ns, ws, [], []⟩ : S43))) := Lib.hid (if_neg ht)
              clear ht z9 z10 hOk
              go_wp2_with (at_builtin; refine Kd.R_append k43 (w0 := w) w.heap.size rfl (.tmp 80) (.tmp 82) 47 43 (.agg #[(.int .i64 0), (.int .u32 0), (.slice none 0 0), (.slice none 0 0), (.slice none 0 0)]) 88 rfl Tryd.underlying47 info43 rfl (by decide) (by decide) u6 out ((⟨1, ns, ws, [], []⟩ : S43)) [.int .i64 ((⟨1, ns, ws, [], []⟩ : S43)).f0, .int .u32 ((⟨1, ns, ws, [], []⟩ : S43)).f1, .slice Aw ws.length cw, .slice none 0 0, .slice none 0 0] (fun q => q ≠ w.heap.size) (fun q => wr.heap.size + 1 < q) rfl (by first | (go_simp; done) | (go_simp; rfl)) (k43_mkM _ _ _ ((⟨1, ns, ws, [], []⟩ : S43)) h2 h3 h4) s3.apart (fun q hq => by have := s3.lt; have := s3.hn; omega) (Kd.R_mono s3.O (fun _ h => h.1)) s3.B s3.B.size ?aL ?_)
              case aL => (try rw [hol]); omega
              intro v1 w9 hR1 hb1 hg1 _
              have hI9 := RefIs.over s3.I s3.O (fun _ h => h.1) hg1
              have hqs := Hqs.out
              rw [Hi.out] at hqs
              clear Hqs h2 h3 h4 s3
              go_wp2
              go_roundw
              case rel => exact ⟨k + 1, ns, _, _, out ++ [(⟨1, ns, ws, [], []⟩ : S43)], hlt, by omega, by simp, rfl, by simp [hol], hI9, hR1, hb1, ⟨hqs⟩⟩
              case measure => simp [intOf]; omega
    · have hqs := hq.out
      have he : out = r := by
        rcases Nat.lt_or_ge k l0.length with hlt | hge
        · have h30 : ¬ k < 30 := fun h => hgo ⟨hlt, h⟩
          rw [List.drop_eq_getElem_cons hlt, eventsG, if_neg h30] at hqs
          exact Option.some.inj hqs
        · rw [List.drop_eq_nil_of_le hge, eventsG] at hqs
          exact Option.some.inj hqs
      subst he
      clear hq hqs
      have hR2 : Kd.R k43 43 wr w.heap.size (fun _ => True) u6 out := Kd.R_mono hRo (fun _ _ => trivial)
      rcases Nat.lt_or_ge k l0.length with hlt | hge
      · have h30 : ¬ k < 30 := fun h => hgo ⟨hlt, h⟩
        obtain rfl : k = 30 := by omega
        clear hgo h30
        go_wp2
        go_ret
        exact ⟨_, rfl, hR2, hb⟩
      · obtain rfl : k = l0.length := by omega
        clear hgo hge
        go_wp2
        go_ret
        exact ⟨_, rfl, hR2, hb⟩
end Go.Proofs.YtfaelejeihmgcaaDoor.Lgx
end

section
namespace Go.Proofs.YtfaelejeihmgcaaDoor.Lgx
open Go.RowKit Go.Proofs.YtfaelejeihmgcaaDoorW.PrintWords Go.Proofs.YtfaelejeihmgcaaDoorW.PrintLast Go.Proofs.YtfaelejeihmgcaaDoorW.PrintMore
attribute [local go_sem] max2_int min2_int max_two min_two max_three min_three max_four min_four   -- for this text's walks alone
set_option linter.unusedVariables false
set_option linter.unusedSimpArgs false
def cachepotref3_Rising.l0 : Nat → List (S43) → Int → Bool → Int → Option (Int × Bool)
  | 0, _, _, _, _ => none
  | k + 1, x0, x4, x5, x6 => if x6 < (x0.length : Int) then (if 0 ≤ x6 then (if ((rd_T43 x0 x6).f0) = 1 then (if x5 = true then (if ((rd_T43 x0 x6).f1) ≤ x4 then (some (x6, false)) else (cachepotref3_Rising.l0 k x0 ((rd_T43 x0 x6).f1) true (wrap64 (x6 + 1)))) else (cachepotref3_Rising.l0 k x0 ((rd_T43 x0 x6).f1) true (wrap64 (x6 + 1)))) else (cachepotref3_Rising.l0 k x0 x4 x5 (wrap64 (x6 + 1)))) else (none)) else (some ((x0.length : Int), true))
def cachepotref3_Rising.f (k : Nat) (l0 : List (S43)) : Option (Int × Bool) := cachepotref3_Rising.l0 k l0 0 false 0
set_option maxHeartbeats 8000000 in
set_option maxRecDepth 100000 in
theorem cachepotref3_Rising.calls (k : Nat) (A0 : Option Addr) (c0 : Nat) (l0 : List (S43)) (r1 : Int) (r2 : Bool) (w : World) (hr0 : Kd.C k43 w A0 l0.length l0) (hc0 : l0.length ≤ c0) (h : cachepotref3_Rising.f k l0 = some (r1, r2)) :
    Calls Tryd.prog 38 #[.slice A0 l0.length c0] w fun e w' => e = .returned (.tuple #[.int .i64 r1, .bool r2]) ∧ Drawn0 w w' := by
  have HR0 := Aside0.mk hr0
  have HC0 := Aside0.mk hc0
  clear hr0 hc0
  have H : (cachepotref3_Rising.l0 k l0 0 false 0) = some (r1, r2) := h
  clear h
  have H' := Aside0.mk H
  clear H
  go_enter Tryd.func38, Tryd.ntmps38
  go_wp2
  go_loopg [4, 5, 6] k (fun kq v4 v5 v6 w' => ∃ (x4_1 : Int) (x5_1 : Bool) (x6_1 : Int), v4 = .int .u32 x4_1 ∧ v5 = .bool x5_1 ∧ v6 = .int .i64 x6_1 ∧ Aside0 (cachepotref3_Rising.l0 kq l0 x4_1 x5_1 x6_1 = some (r1, r2)) ∧ Aside0 (kq ≤ k) ∧ Drawn0 w w')
  case atStart => exact ⟨(0), (false), (0), (by first | rfl | (simp; done) | (simp [*]; done)), (by first | rfl | (simp; done) | (simp [*]; done)), (by first | rfl | (simp; done) | (simp [*]; done)), H', ⟨Nat.le_refl _⟩, by repeat (first | exact Drawn0.refl _ | apply Drawn0.step)⟩
  case round =>
    clear H'
    obtain ⟨x4_1, x5_1, x6_1, rfl, rfl, rfl, HA, HK1, ⟨m1, rfl⟩⟩ := hrel
    cases gk with
    | zero => exact absurd HA.out (by simp [cachepotref3_Rising.l0])
    | succ k1 =>
      have H := HA.out
      clear HA
      simp only [cachepotref3_Rising.l0] at H
      by_cases c2 : x6_1 < (l0.length : Int)
      · rw [if_pos c2] at H
        have c2b0 : decide (x6_1 < (l0.length : Int)) = true := decide_eq_true c2
        clear c2
        by_cases c3 : 0 ≤ x6_1
        · rw [if_pos c3] at H
          have c3b0 : decide (0 ≤ x6_1) = true := decide_eq_true c3
          clear c3
          by_cases c4 : ((rd_T43 l0 x6_1).f0) = 1
          · rw [if_pos c4] at H
            have c4b0 : (((rd_T43 l0 x6_1).f0) == 1) = true := beq_iff_eq.mpr c4
            have c4b1 : (((rd_T43 l0 x6_1).f0) != 1) = false := bne_eq_false_iff_eq.mpr c4
            clear c4
            by_cases c5 : x5_1 = true
            · subst c5
              have H1 : (if ((rd_T43 l0 x6_1).f1) ≤ x4_1 then (some (x6_1, false)) else (cachepotref3_Rising.l0 k1 l0 ((rd_T43 l0 x6_1).f1) true (wrap64 (x6_1 + 1)))) = some (r1, r2) := by rw [if_pos rfl] at H; exact H
              clear H
              have H := H1
              clear H1
              by_cases c6 : ((rd_T43 l0 x6_1).f1) ≤ x4_1
              · rw [if_pos c6] at H
                have c6b0 : decide (((rd_T43 l0 x6_1).f1) ≤ x4_1) = true := decide_eq_true c6
                clear c6
                simp only [Option.some.injEq, Prod.mk.injEq] at H
                obtain ⟨rfl, rfl⟩ := H
                have p266 : 0 ≤ (x6_1 : Int) := of_decide_eq_true (by first | (with_reducible assumption) | assumption)
                have q266 : x6_1 < (l0.length : Int) := of_decide_eq_true (by first | (with_reducible assumption) | assumption)
                obtain ⟨ad266, A266_2, c266_2, A266_3, c266_3, A266_4, c266_4, e266, hx266_0, hx266_1, hx266_2, hx266_3, hx266_4, hl266_2, hi266_2, hl266_3, hi266_3, hl266_4, hi266_4⟩ := at_T43 HR0.out x6_1 p266 q266
                cases e266
                have HR266_2 := Aside0.mk hi266_2
                have HC266_2 := Aside0.mk hl266_2
                clear hi266_2 hl266_2
                have HR266_3 := Aside0.mk hi266_3
                have HC266_3 := Aside0.mk hl266_3
                clear hi266_3 hl266_3
                have HR266_4 := Aside0.mk hi266_4
                have HC266_4 := Aside0.mk hl266_4
                clear hi266_4 hl266_4
                replace p266 := eq_true p266
                replace q266 := eq_true q266
                have p267 : 0 ≤ (x6_1 : Int) := of_decide_eq_true (by first | (with_reducible assumption) | assumption)
                have q267 : x6_1 < (l0.length : Int) := of_decide_eq_true (by first | (with_reducible assumption) | assumption)
                obtain ⟨ad267, A267_2, c267_2, A267_3, c267_3, A267_4, c267_4, e267, hx267_0, hx267_1, hx267_2, hx267_3, hx267_4, hl267_2, hi267_2, hl267_3, hi267_3, hl267_4, hi267_4⟩ := at_T43 HR0.out x6_1 p267 q267
                obtain rfl : ad266 = ad267 := (by injection e267)
                have HR267_2 := Aside0.mk hi267_2
                have HC267_2 := Aside0.mk hl267_2
                clear hi267_2 hl267_2
                have HR267_3 := Aside0.mk hi267_3
                have HC267_3 := Aside0.mk hl267_3
                clear hi267_3 hl267_3
                have HR267_4 := Aside0.mk hi267_4
                have HC267_4 := Aside0.mk hl267_4
                clear hi267_4 hl267_4
                replace p267 := eq_true p267
                replace q267 := eq_true q267
                have ea_ := Option.some.inj (hx266_2.symm.trans hx267_2)
                injection ea_ with ea_ en_ ec_
                subst ea_
                subst ec_
                clear en_
                have ea_ := Option.some.inj (hx266_3.symm.trans hx267_3)
                injection ea_ with ea_ en_ ec_
                subst ea_
                subst ec_
                clear en_
                have ea_ := Option.some.inj (hx266_4.symm.trans hx267_4)
                injection ea_ with ea_ en_ ec_
                subst ea_
                subst ec_
                clear en_
                go_wp2
                go_ret2
                exact ⟨by first | rfl | (simp; done) | (simp [*]; done), by repeat (first | exact Drawn0.refl _ | apply Drawn0.step)⟩
              · rw [if_neg c6] at H
                have c6b0 : decide (((rd_T43 l0 x6_1).f1) ≤ x4_1) = false := decide_eq_false c6
                clear c6
                have H' := Aside0.mk H
                clear H
                have p266 : 0 ≤ (x6_1 : Int) := of_decide_eq_true (by first | (with_reducible assumption) | assumption)
                have q266 : x6_1 < (l0.length : Int) := of_decide_eq_true (by first | (with_reducible assumption) | assumption)
                obtain ⟨ad266, A266_2, c266_2, A266_3, c266_3, A266_4, c266_4, e266, hx266_0, hx266_1, hx266_2, hx266_3, hx266_4, hl266_2, hi266_2, hl266_3, hi266_3, hl266_4, hi266_4⟩ := at_T43 HR0.out x6_1 p266 q266
                cases e266
                have HR266_2 := Aside0.mk hi266_2
                have HC266_2 := Aside0.mk hl266_2
                clear hi266_2 hl266_2
                have HR266_3 := Aside0.mk hi266_3
                have HC266_3 := Aside0.mk hl266_3
                clear hi266_3 hl266_3
                have HR266_4 := Aside0.mk hi266_4
                have HC266_4 := Aside0.mk hl266_4
                clear hi266_4 hl266_4
                replace p266 := eq_true p266
                replace q266 := eq_true q266
                have p267 : 0 ≤ (x6_1 : Int) := of_decide_eq_true (by first | (with_reducible assumption) | assumption)
                have q267 : x6_1 < (l0.length : Int) := of_decide_eq_true (by first | (with_reducible assumption) | assumption)
                obtain ⟨ad267, A267_2, c267_2, A267_3, c267_3, A267_4, c267_4, e267, hx267_0, hx267_1, hx267_2, hx267_3, hx267_4, hl267_2, hi267_2, hl267_3, hi267_3, hl267_4, hi267_4⟩ := at_T43 HR0.out x6_1 p267 q267
                obtain rfl : ad266 = ad267 := (by injection e267)
                have HR267_2 := Aside0.mk hi267_2
                have HC267_2 := Aside0.mk hl267_2
                clear hi267_2 hl267_2
                have HR267_3 := Aside0.mk hi267_3
                have HC267_3 := Aside0.mk hl267_3
                clear hi267_3 hl267_3
                have HR267_4 := Aside0.mk hi267_4
                have HC267_4 := Aside0.mk hl267_4
                clear hi267_4 hl267_4
                replace p267 := eq_true p267
                replace q267 := eq_true q267
                have ea_ := Option.some.inj (hx266_2.symm.trans hx267_2)
                injection ea_ with ea_ en_ ec_
                subst ea_
                subst ec_
                clear en_
                have ea_ := Option.some.inj (hx266_3.symm.trans hx267_3)
                injection ea_ with ea_ en_ ec_
                subst ea_
                subst ec_
                clear en_
                have ea_ := Option.some.inj (hx266_4.symm.trans hx267_4)
                injection ea_ with ea_ en_ ec_
                subst ea_
                subst ec_
                clear en_
                have p268 : 0 ≤ (x6_1 : Int) := of_decide_eq_true (by first | (with_reducible assumption) | assumption)
                have q268 : x6_1 < (l0.length : Int) := of_decide_eq_true (by first | (with_reducible assumption) | assumption)
                obtain ⟨ad268, A268_2, c268_2, A268_3, c268_3, A268_4, c268_4, e268, hx268_0, hx268_1, hx268_2, hx268_3, hx268_4, hl268_2, hi268_2, hl268_3, hi268_3, hl268_4, hi268_4⟩ := at_T43 HR0.out x6_1 p268 q268
                obtain rfl : ad266 = ad268 := (by injection e268)
                have HR268_2 := Aside0.mk hi268_2
                have HC268_2 := Aside0.mk hl268_2
                clear hi268_2 hl268_2
                have HR268_3 := Aside0.mk hi268_3
                have HC268_3 := Aside0.mk hl268_3
                clear hi268_3 hl268_3
                have HR268_4 := Aside0.mk hi268_4
                have HC268_4 := Aside0.mk hl268_4
                clear hi268_4 hl268_4
                replace p268 := eq_true p268
                replace q268 := eq_true q268
                have ea_ := Option.some.inj (hx266_2.symm.trans hx268_2)
                injection ea_ with ea_ en_ ec_
                subst ea_
                subst ec_
                clear en_
                have ea_ := Option.some.inj (hx266_3.symm.trans hx268_3)
                injection ea_ with ea_ en_ ec_
                subst ea_
                subst ec_
                clear en_
                have ea_ := Option.some.inj (hx266_4.symm.trans hx268_4)
                injection ea_ with ea_ en_ ec_
                subst ea_
                subst ec_
                clear en_
                go_wp2
                go_roundg k1
                case measure => have := HK1.out; omega
                case rel => exact ⟨((rd_T43 l0 x6_1).f1), (true), (wrap64 (x6_1 + 1)), (by first | rfl | (simp; done) | (simp [*]; done)), (by first | rfl | (simp; done) | (simp [*]; done)), (by first | rfl | (simp; done) | (simp [*]; done)), H', ⟨by have := HK1.out; omega⟩, by repeat (first | exact Drawn0.refl _ | apply Drawn0.step)⟩
            · replace c5 := Bool.eq_false_iff.mpr c5
              subst c5
              have H1 : (cachepotref3_Rising.l0 k1 l0 ((rd_T43 l0 x6_1).f1) true (wrap64 (x6_1 + 1))) = some (r1, r2) := by rw [if_neg (show ¬ (false = true) by decide)] at H; exact H
              clear H
              have H := H1
              clear H1
              have H' := Aside0.mk H
              clear H
              have p266 : 0 ≤ (x6_1 : Int) := of_decide_eq_true (by first | (with_reducible assumption) | assumption)
              have q266 : x6_1 < (l0.length : Int) := of_decide_eq_true (by first | (with_reducible assumption) | assumption)
              obtain ⟨ad266, A266_2, c266_2, A266_3, c266_3, A266_4, c266_4, e266, hx266_0, hx266_1, hx266_2, hx266_3, hx266_4, hl266_2, hi266_2, hl266_3, hi266_3, hl266_4, hi266_4⟩ := at_T43 HR0.out x6_1 p266 q266
              cases e266
              have HR266_2 := Aside0.mk hi266_2
              have HC266_2 := Aside0.mk hl266_2
              clear hi266_2 hl266_2
              have HR266_3 := Aside0.mk hi266_3
              have HC266_3 := Aside0.mk hl266_3
              clear hi266_3 hl266_3
              have HR266_4 := Aside0.mk hi266_4
              have HC266_4 := Aside0.mk hl266_4
              clear hi266_4 hl266_4
              replace p266 := eq_true p266
              replace q266 := eq_true q266
              have p269 : 0 ≤ (x6_1 : Int) := of_decide_eq_true (by first | (with_reducible assumption) | assumption)
              have q269 : x6_1 < (l0.length : Int) := of_decide_eq_true (by first | (with_reducible assumption) | assumption)
              obtain ⟨ad269, A269_2, c269_2, A269_3, c269_3, A269_4, c269_4, e269, hx269_0, hx269_1, hx269_2, hx269_3, hx269_4, hl269_2, hi269_2, hl269_3, hi269_3, hl269_4, hi269_4⟩ := at_T43 HR0.out x6_1 p269 q269
              obtain rfl : ad266 = ad269 := (by injection e269)
              have HR269_2 := Aside0.mk hi269_2
              have HC269_2 := Aside0.mk hl269_2
              clear hi269_2 hl269_2
              have HR269_3 := Aside0.mk hi269_3
              have HC269_3 := Aside0.mk hl269_3
              clear hi269_3 hl269_3
              have HR269_4 := Aside0.mk hi269_4
              have HC269_4 := Aside0.mk hl269_4
              clear hi269_4 hl269_4
              replace p269 := eq_true p269
              replace q269 := eq_true q269
              have ea_ := Option.some.inj (hx266_2.symm.trans hx269_2)
              injection ea_ with ea_ en_ ec_
              subst ea_
              subst ec_
              clear en_
              have ea_ := Option.some.inj (hx266_3.symm.trans hx269_3)
              injection ea_ with ea_ en_ ec_
              subst ea_
              subst ec_
              clear en_
              have ea_ := Option.some.inj (hx266_4.symm.trans hx269_4)
              injection ea_ with ea_ en_ ec_
              subst ea_
              subst ec_
              clear en_
              go_wp2
              go_roundg k1
              case measure => have := HK1.out; omega
              case rel => exact ⟨((rd_T43 l0 x6_1).f1), (true), (wrap64 (x6_1 + 1)), (by first | rfl | (simp; done) | (simp [*]; done)), (by first | rfl | (simp; done) | (simp [*]; done)), (by first | rfl | (simp; done) | (simp [*]; done)), H', ⟨by have := HK1.out; omega⟩, by repeat (first | exact Drawn0.refl _ | apply Drawn0.step)⟩
          · rw [if_neg c4] at H
            have c4b0 : (((rd_T43 l0 x6_1).f0) == 1) = false := beq_eq_false_iff_ne.mpr c4
            have c4b1 : (((rd_T43 l0 x6_1).f0) != 1) = true := bne_iff_ne.mpr c4
            have H' := Aside0.mk H
            clear H
            have p266 : 0 ≤ (x6_1 : Int) := of_decide_eq_true (by first | (with_reducible assumption) | assumption)
            have q266 : x6_1 < (l0.length : Int) := of_decide_eq_true (by first | (with_reducible assumption) | assumption)
            obtain ⟨ad266, A266_2, c266_2, A266_3, c266_3, A266_4, c266_4, e266, hx266_0, hx266_1, hx266_2, hx266_3, hx266_4, hl266_2, hi266_2, hl266_3, hi266_3, hl266_4, hi266_4⟩ := at_T43 HR0.out x6_1 p266 q266
            cases e266
            have HR266_2 := Aside0.mk hi266_2
            have HC266_2 := Aside0.mk hl266_2
            clear hi266_2 hl266_2
            have HR266_3 := Aside0.mk hi266_3
            have HC266_3 := Aside0.mk hl266_3
            clear hi266_3 hl266_3
            have HR266_4 := Aside0.mk hi266_4
            have HC266_4 := Aside0.mk hl266_4
            clear hi266_4 hl266_4
            replace p266 := eq_true p266
            replace q266 := eq_true q266
            go_wp2
            go_roundg k1
            case measure => have := HK1.out; omega
            case rel => exact ⟨(x4_1), (x5_1), (wrap64 (x6_1 + 1)), (by first | rfl | (simp; done) | (simp [*]; done)), (by first | rfl | (simp; done) | (simp [*]; done)), (by first | rfl | (simp; done) | (simp [*]; done)), H', ⟨by have := HK1.out; omega⟩, by repeat (first | exact Drawn0.refl _ | apply Drawn0.step)⟩
        · rw [if_neg c3] at H
          exact absurd H (by simp)
      · rw [if_neg c2] at H
        have c2b0 : decide (x6_1 < (l0.length : Int)) = false := decide_eq_false c2
        clear c2
        simp only [Option.some.injEq, Prod.mk.injEq] at H
        obtain ⟨rfl, rfl⟩ := H
        go_wp2
        go_ret2
        exact ⟨by first | rfl | (simp; done) | (simp [*]; done), by repeat (first | exact Drawn0.refl _ | apply Drawn0.step)⟩
def ledger_committed.l0 : Nat → List (S43) → Int → Int → Option (Int)
  | 0, _, _, _ => none
  | k + 1, x0, x1, x5 => if x5 ≥ 0 then (if 0 ≤ x5 then (if x5 < (x0.length : Int) then (if ((rd_T43 x0 x5).f0) = 1 then (if ((rd_T43 x0 x5).f1) = x1 then (some x5) else (ledger_committed.l0 k x0 x1 (wrap64 (x5 - 1)))) else (ledger_committed.l0 k x0 x1 (wrap64 (x5 - 1)))) else (none)) else (none)) else (some (-1))
def ledger_committed.f (k : Nat) (l0 : List (S43)) (a1 : Int) : Option (Int) := ledger_committed.l0 k l0 a1 (wrap64 ((l0.length : Int) - 1))
def ledger_last.l0 : Nat → List (S101) → ByteArray → Int → Option (ByteArray × Bool × ByteArray × Bool)
  | 0, _, _, _ => none
  | k + 1, x0, x1, x6 => if x6 ≥ 0 then (if 0 ≤ x6 then (if x6 < (x0.length : Int) then (if ((rd_T101 x0 x6).f0).toList = x1.toList then (some ((rd_T101 x0 x6).f0, (rd_T101 x0 x6).f1, (rd_T101 x0 x6).f2, true)) else (ledger_last.l0 k x0 x1 (wrap64 (x6 - 1)))) else (none)) else (none)) else (some ((⟨#[]⟩ : ByteArray), false, (⟨#[]⟩ : ByteArray), false))
def ledger_last.f (k : Nat) (l0 : List (S101)) (a1 : ByteArray) : Option (ByteArray × Bool × ByteArray × Bool) := ledger_last.l0 k l0 a1 (wrap64 ((l0.length : Int) - 1))
end Go.Proofs.YtfaelejeihmgcaaDoor.Lgx
end

section
namespace Go.Proofs.YtfaelejeihmgcaaDoor.Lgx
open Go.RowKit Go.Proofs.YtfaelejeihmgcaaDoorW.PrintWords Go.Proofs.YtfaelejeihmgcaaDoorW.PrintLast
def forgotS : ByteArray := ⟨#[102, 111, 114, 103, 111, 116]⟩
def hexS (s : ByteArray) : ByteArray := ⟨(Wd.hexB s).toArray⟩
def forgotL1 (l : List ByteArray) : List ByteArray := [forgotS] ++ l.map hexS
theorem forgot_snoc (l : List ByteArray) (x : ByteArray) : forgotL1 (l ++ [x]) = forgotL1 l ++ [hexS x] := by simp [forgotL1]
theorem join_at (A : Option Addr) (c n : Nat) (l : List ByteArray) (r : ByteArray) (w : World) (hn : l.length = n) (hr : Kd.C Kd.string w A l.length l) (hc : l.length ≤ c) (h : strings_Join.f l ⟨#[32]⟩ = some r) :
    Calls Tryd.prog 62 #[.slice A n c, .string ⟨#[32]⟩] w fun e w' => e = .returned (.string r) ∧ Below w.heap.size w w' := by
  subst hn
  exact strings_Join.calls A c l _ r w hr hc h
set_option maxHeartbeats 4000000 in
set_option maxRecDepth 100000 in
theorem ledger_Line_forgot (f1 : Int) (A2 : Option Addr) (n2 c2 : Nat) (A3 : Option Addr) (n3 c3 : Nat) (A4 : Option Addr) (c4 : Nat) (l : List ByteArray) (r : ByteArray) (w : World) (hC : Kd.C Kd.string w A4 l.length l) (hl : l.length ≤ 1000) (hs : ∀ s ∈ l, s.size ≤ 1048576) (h : strings_Join.f (forgotL1 l) ⟨#[32]⟩ = some r) :
    Calls Tryd.prog 32 #[.agg #[.int .i64 3, .int .u32 f1, .slice A2 n2 c2, .slice A3 n3 c3, .slice A4 l.length c4]] w fun e w' => e = .returned (.string r) ∧ Below w.heap.size w w' := by
  have H := Lib.hid h
  have HS := Lib.hid hs
  clear h hs
  have hb1 := below_alloc (Below.refl _ w) (.cells #[.int .i64 3, .int .u32 f1, .slice A2 n2 c2, .slice A3 n3 c3, .slice A4 l.length c4] 43)
  have hz := heap_alloc_new w (.cells #[.int .i64 3, .int .u32 f1, .slice A2 n2 c2, .slice A3 n3 c3, .slice A4 l.length c4] 43)
  have hlt1 : w.heap.size < (w.alloc (.cells #[.int .i64 3, .int .u32 f1, .slice A2 n2 c2, .slice A3 n3 c3, .slice A4 l.length c4] 43)).heap.size := by simp
  go_enter Tryd.func32, Tryd.ntmps32
  go_wp2_with ((with_reducible refine gate_dst (N := 84) rfl ?_); refine Kd.R_lit Kd.string _ 9 ?hg (N := 84) ?hd (xs := [forgotS]) (inner := [.string forgotS]) (ok := fun _ => True) (okp := fun _ => True) ?hr ?hp (fun _ hk => hk) trivial (Below.refl _ _) (Nat.le_refl _) (by simp) ?_; (case hd => rfl); (case hg => rfl); (case hr => first | (go_simp; done) | (go_simp; rfl)); (case hp => exact (Reps.one (show Kd.M Kd.string _ _ _ forgotS [.string forgotS] from rfl) (Reps.none _ _))))
  intro v0 w2 hR0 hb2 _ x _ _
  rw [show w.heap.size + 1 = (w.alloc (.cells #[.int .i64 3, .int .u32 f1, .slice A2 n2 c2, .slice A3 n3 c3, .slice A4 l.length c4] 43)).heap.size by simp] at hR0 hb2
  generalize w.alloc (.cells #[.int .i64 3, .int .u32 f1, .slice A2 n2 c2, .slice A3 n3 c3, .slice A4 l.length c4] 43) = w1 at hb1 hz hlt1 hR0 hb2 ⊢
  have z4 : w2.cell? ⟨w.heap.size, 4, none⟩ = some (.slice A4 l.length c4) := (hb2.cell (p := ⟨w.heap.size, 4, none⟩) hlt1).trans (Lib.cell_of_heap hz 4)
  go_wp2_with fail
  go_loopw [3, 88] (fun v i wi => ∃ j : Nat, j ≤ l.length ∧ i = .int .i64 j ∧ Kd.R Kd.string 9 wi w1.heap.size (fun _ => True) v (forgotL1 (l.take j)) ∧ Below w1.heap.size w1 wi) (fun _ i _ => l.length - (intOf i).toNat)
  case atStart => exact ⟨0, Nat.zero_le _, rfl, hR0, hb2⟩
  case round =>
    clear hR0 hb2
    obtain ⟨j, hjl, rfl, hR, hbi⟩ := hrel
    have hbm := below_then hb1 hb1.size hbi
    by_cases hlj : j < l.length
    · obtain ⟨ad, e, c0⟩ := Kd.at_string hC j (by omega) (by omega)
      cases e
      have hrd : rdOf ByteArray.empty l (j : Int) = l[j] := by
        unfold rdOf
        rw [List.getD_eq_getElem?_getD, Int.toNat_natCast, List.getElem?_eq_getElem hlj]
        rfl
      rw [hrd] at c0
      have hsn := forgot_snoc (l.take j) l[j]
      rw [← List.take_succ_eq_append_getElem hlj] at hsn
      have hx0 := HS.out _ (List.getElem_mem hlj)
      obtain ⟨x, hx⟩ : ∃ x, x = l[j] := ⟨_, rfl⟩
      rw [← hx] at c0 hsn hx0
      have Hsn := Lib.hid hsn
      have hxf : ledger_hex.f x = some (hexS x) := by
        unfold ledger_hex.f hexS
        rw [if_pos (Nat.le_trans hx0 (by decide))]
      have Hxf := Lib.hid hxf
      clear hsn hx hrd hx0 hxf
      simp only [Int.toNat_natCast] at c0
      replace c0 := (hbm.cell (World.block_lt_of_cell? w _ c0)).trans c0
      have hlen : (forgotL1 (l.take j)).length ≤ 1048576 := by simp only [forgotL1, List.length_append, List.length_map, List.length_singleton]; have := List.length_take_le j l; omega
      go_wp2_with fail
      refine (ledger_hex.calls x _ _ Hxf.out).mono ?_
      rintro e w3 ⟨rfl, hb3⟩
      have hbj := below_then hbi hbi.size hb3
      have hR3 := Kd.R_below hR hb3
      clear hR
      go_wp2_with (at_builtin; refine Kd.R_append Kd.string (w0 := w1) w1.heap.size rfl (.tmp 92) (.tmp 95) 22 9 (.string ⟨#[]⟩) 16 rfl Tryd.underlying22 info9 rfl (by decide) (by omega) u3 (forgotL1 (l.take j)) (hexS x) [.string (hexS x)] (fun _ => True) (fun _ => False) rfl (by first | (go_simp; done) | (go_simp; rfl)) rfl (fun _ hk => hk.elim) (fun _ _ => trivial) hR3 hbj hbj.size ?aL ?_)
      case aL => omega
      intro v1 w4 hR1 hb4 _ _
      have hR2 : Kd.R Kd.string 9 w4 w1.heap.size (fun _ => True) v1 (forgotL1 (l.take (j + 1))) := by rw [Hsn.out]; exact hR1
      clear hR3 hR1
      go_wp2
      go_roundw
      case rel => exact ⟨j + 1, hlj, by simp, hR2, hb4⟩
      case measure => simp [intOf]; omega
    · have hje : j = l.length := by omega
      subst hje
      rw [List.take_length] at hR
      obtain ⟨Aa, ca, ea⟩ := Kd.R_slice hR
      subst ea
      obtain ⟨_, hca, hCa⟩ := Kd.R_reads' hR
      have Hca := Lib.hid hca
      obtain ⟨n, hn⟩ : ∃ n, (forgotL1 l).length = n := ⟨_, rfl⟩
      rw [hn]
      have Hn := Lib.hid hn
      clear hR hca hn
      go_wp2_with fail
      refine (join_at Aa ca n (forgotL1 l) r wr Hn.out hCa Hca.out H.out).mono ?_
      rintro e w5 ⟨rfl, hb5⟩
      have hbf := below_then hbm hbm.size hb5
      go_wp2
      go_ret
      exact ⟨rfl, hbf⟩
theorem alive_replay : ledger_Replay.f [⟨2, 0, [], [⟨⟨#[97]⟩, true, ⟨#[]⟩, 0⟩], []⟩] = some (0, false) := by
  unfold ledger_Replay.f
  rw [if_pos (by decide)]
  simp [replayM, fails, sameA, neA, getM, asked, Atm.nought]
theorem alive_line : strings_Join.f (forgotL1 [⟨#[97]⟩]) ⟨#[32]⟩ = some ⟨#[102, 111, 114, 103, 111, 116, 32, 54, 49]⟩ := by
  have e : Wd.joinB (forgotL1 [⟨#[97]⟩]) ⟨#[32]⟩ = [102, 111, 114, 103, 111, 116, 32, 54, 49] := by decide
  unfold strings_Join.f Wd.strings_Join.f
  rw [e]
  rfl
theorem bytes9 : ((⟨#[102, 111, 114, 103, 111, 116, 32, 54, 49]⟩ : ByteArray).toList == ([102, 111, 114, 103, 111, 116, 32, 54, 49] : List UInt8)) = true := by rw [ByteArray.toList_eq]; decide
set_option maxHeartbeats 8000000 in
set_option maxRecDepth 100000 in
theorem alive_walk (w : World) : Calls Tryd.prog 31 #[] w fun e w' => e = .returned (.bool true) ∧ Below w.heap.size w w' := by
  have hu98 := Tryd.underlying98
  have hu43 := Tryd.underlying43
  have HB := Aside0.mk (Below.refl w.heap.size w)
  obtain ⟨y293, hy293⟩ : ∃ y_ : List (S98), y_ = (([(⟨(⟨#[97]⟩ : ByteArray), true, (⟨#[]⟩ : ByteArray), 0⟩ : S98)] : List (S98))) := ⟨_, rfl⟩
  obtain ⟨y296, hy296⟩ : ∃ y_ : List (S43), y_ = (([(⟨2, 0, ([] : List (S101)), y293, ([] : List ByteArray)⟩ : S43)] : List (S43))) := ⟨_, rfl⟩
  obtain ⟨y301, hy301⟩ : ∃ y_ : List ByteArray, y_ = (([(⟨#[97]⟩ : ByteArray)] : List ByteArray)) := ⟨_, rfl⟩
  obtain ⟨t304, ht304⟩ : ∃ t_ : ByteArray, t_ = ⟨#[102, 111, 114, 103, 111, 116, 32, 54, 49]⟩ := ⟨_, rfl⟩
  have A1 : Aside0 (ledger_Replay.f y296 = some (0, false)) := ⟨by rw [hy296, hy293]; exact alive_replay⟩
  have A2 : Aside0 (strings_Join.f (forgotL1 y301) ⟨#[32]⟩ = some t304) := ⟨by rw [hy301, ht304]; exact alive_line⟩
  have c3b0 : (t304.toList == ([102, 111, 114, 103, 111, 116, 32, 54, 49] : List UInt8)) = true := by rw [ht304]; exact bytes9
  have c3b1 : (t304.toList != ([102, 111, 114, 103, 111, 116, 32, 54, 49] : List UInt8)) = false := bne_eq_false_iff_eq.mpr (beq_iff_eq.1 c3b0)
  have Ny293 := Aside0.mk hy293
  have Ny296 := Aside0.mk hy296
  have Ny301 := Aside0.mk hy301
  clear hy293 hy296 hy301 ht304
  go_enter Tryd.func31, Tryd.ntmps31
  go_wp2_with (first | ((with_reducible refine gate_dst (N := 5) rfl ?_); refine Kd.R_lit k98 _ 98 ?hg (N := 5) ?hd (xs := ([(⟨(⟨#[97]⟩ : ByteArray), true, (⟨#[]⟩ : ByteArray), 0⟩ : S98)] : List (S98))) (inner := [.string (⟨#[97]⟩ : ByteArray), .bool true, .string (⟨#[]⟩ : ByteArray), .int .u32 0]) (ok := fun _ => True) (okp := fun _ => True) ?hr ?hp (fun _ hk => hk) trivial (Below.refl _ _) (Nat.le_refl _) (by simp) ?_; (case hd => rfl); (case hg => rfl); (case hr => first | (go_simp; done) | (go_simp; rfl)); (case hp => exact (Reps.c4 (show Kd.M k98 _ _ _ (⟨(⟨#[97]⟩ : ByteArray), true, (⟨#[]⟩ : ByteArray), 0⟩ : S98) [.string (⟨#[97]⟩ : ByteArray), .bool true, .string (⟨#[]⟩ : ByteArray), .int .u32 0] from (k98_mkM _ _ _ (⟨(⟨#[97]⟩ : ByteArray), true, (⟨#[]⟩ : ByteArray), 0⟩ : S98) )) (Reps.none _ _))); intro v294 w5 ho6 hb hg_ hnew_; clear hg_ hnew_; (first | rw [← Ny293.out] at ho6 | (simp only [Int.reduceToNat] at ho6; rw [← Ny293.out] at ho6)); have n0_ := Aside0.mk (Kd.R_lower ho6 (below_size (by repeat (first | (with_reducible first | exact HB.out | apply below_alloc | apply pw_below_drewN | apply below_drew1) | exact HB.out)))); have n1_ := Aside0.mk (below_step (by repeat (first | (with_reducible first | exact HB.out | apply below_alloc | apply pw_below_drewN | apply below_drew1) | exact HB.out)) hb); clear HB; have HO295 := n0_; have HB := n1_; clear n0_ n1_; clear hb ho6; obtain ⟨Ao7, co7, eo7⟩ := Kd.R_slice HO295.out; subst eo7) | ((with_reducible refine gate_dst (N := 7) rfl ?_); refine Kd.N_lit k43 _ 43 ?hg (N' := 7) ?hd (xs := ([(⟨2, 0, ([] : List (S101)), y293, ([] : List ByteArray)⟩ : S43)] : List (S43))) (inner := [.int .i64 2, .int .u32 0, .slice none 0 0, .slice Ao7 y293.length co7, .slice none 0 0]) (ok := (fun _ => True)) (okp := (fun _ => True)) ?hr ?hp (fun _ hk => hk) ((show ∀ k_, w5.heap.size ≤ k_ → (fun _ => True) k_ from fun k_ hk => trivial) _ (Nat.le_refl _)) (Below.refl _ _) (Nat.le_refl _) (by simp) ?_; (case hd => rfl); (case hg => rfl); (case hr => first | (go_simp; done) | (go_simp; rfl)); (case hp => exact (Reps.c5 (show Kd.FK k43 _ _ (⟨2, 0, ([] : List (S101)), y293, ([] : List ByteArray)⟩ : S43) [.int .i64 2, .int .u32 0, .slice none 0 0, .slice Ao7 y293.length co7, .slice none 0 0] from (k43_mkF _ _ (⟨2, 0, ([] : List (S101)), y293, ([] : List ByteArray)⟩ : S43) (Nat.le_refl _) (Kd.F_nil _ _ _) (Kd.R_reads' (Kd.R_mono (ok' := (fun _ => True)) (HO295.out) (fun k_ hk => trivial))).2.1 (Kd.R_F (Kd.R_mono (ok' := (fun _ => True)) (HO295.out) (fun k_ hk => trivial))) (Nat.le_refl _) (Kd.F_nil _ _ _))) (Reps.none _ _))); intro v297 w8 ho9 hb hg_ hnew_; clear hg_ hnew_; (first | rw [← Ny296.out] at ho9 | (simp only [Int.reduceToNat] at ho9; rw [← Ny296.out] at ho9)); have n0_ := Aside0.mk (Kd.N_lower ho9 (below_size (by repeat (first | (with_reducible first | exact HB.out | apply below_alloc | apply pw_below_drewN | apply below_drew1) | exact HB.out)))); have n1_ := Aside0.mk (below_step (by repeat (first | (with_reducible first | exact HB.out | apply below_alloc | apply pw_below_drewN | apply below_drew1) | exact HB.out)) hb); clear HB; clear HO295; have HO298 := n0_; have HB := n1_; clear n0_ n1_; clear hb ho9; obtain ⟨Ao10, co10, eo10⟩ := Kd.N_slice HO298.out; subst eo10) | ((with_reducible refine gate_callee (f := 35) rfl ?_); refine goesL_ (some 8) rfl rfl Tryd.func35 (by kernel_rfl) rfl #[.slice Ao10 y296.length co10] rfl (by (try simp only [List.map_toArray, List.map_cons, List.map_nil]); first | done | rfl | (simp only [List.length_drop, List.length_take]; rfl)) ?_; (with_reducible refine (ledger_Replay.calls _ _ y296 0 false _ ?side1 ?side2 A1.out).mono ?_); (case side1 => repeat (first | exact (Kd.N_reads' HO298.out).2.2 | (with_reducible refine Kd.C_alloc ?_ _) | (with_reducible refine Kd.C_drewN ?_ _) | (with_reducible refine Kd.C_drew ?_))); (case side2 => exact (Kd.N_reads' HO298.out).2.1); rintro e w11 ⟨rfl, hb⟩; refine ⟨_, rfl, ?_⟩; have n0_ := Aside0.mk (Kd.N_below (by (with_reducible repeat (first | apply Kd.N_alloc | apply Kd.N_drewN | apply Kd.N_drew)); exact HO298.out) hb); have n1_ := Aside0.mk (below_step (by repeat (first | (with_reducible first | exact HB.out | apply below_alloc | apply pw_below_drewN | apply below_drew1) | exact HB.out)) hb); clear HO298; clear HB; have HO298 := n0_; have HB := n1_; clear n0_ n1_; (try clear hb); (try clear hb2); (try clear hk); (try clear hi)) | ((with_reducible refine gate_dst (N := 11) rfl ?_); refine Kd.R_lit Kd.string _ 9 ?hg (N := 11) ?hd (xs := ([(⟨#[97]⟩ : ByteArray)] : List ByteArray)) (inner := [.string (⟨#[97]⟩ : ByteArray)]) (ok := fun _ => True) (okp := fun _ => True) ?hr ?hp (fun _ hk => hk) trivial (Below.refl _ _) (Nat.le_refl _) (by simp) ?_; (case hd => rfl); (case hg => rfl); (case hr => first | (go_simp; done) | (go_simp; rfl)); (case hp => exact (Reps.one (show Kd.M Kd.string _ _ _ (⟨#[97]⟩ : ByteArray) [.string (⟨#[97]⟩ : ByteArray)] from rfl) (Reps.none _ _))); intro v302 w12 ho13 hb hg_ hnew_; clear hg_ hnew_; (first | rw [← Ny301.out] at ho13 | (simp only [Int.reduceToNat] at ho13; rw [← Ny301.out] at ho13)); have n0_ := Aside0.mk (Kd.N_elder' (by (with_reducible repeat (first | apply Kd.N_alloc | apply Kd.N_drewN | apply Kd.N_drew)); exact HO298.out) (Kd.R_base ho13) hb); have n1_ := Aside0.mk (Kd.R_lower ho13 (below_size (by repeat (first | (with_reducible first | exact HB.out | apply below_alloc | apply pw_below_drewN | apply below_drew1) | exact HB.out)))); have n2_ := Aside0.mk (below_step (by repeat (first | (with_reducible first | exact HB.out | apply below_alloc | apply pw_below_drewN | apply below_drew1) | exact HB.out)) hb); clear HO298; clear HB; have HO298 := n0_; have HO303 := n1_; have HB := n2_; clear n0_ n1_ n2_; clear hb ho13; obtain ⟨Ao14, co14, eo14⟩ := Kd.R_slice HO303.out; subst eo14) | ((with_reducible refine gate_callee (f := 32) rfl ?_); refine goesL_ (some 13) rfl rfl Tryd.func32 (by kernel_rfl) rfl #[.agg #[.int .i64 3, .int .u32 0, .slice none 0 0, .slice none 0 0, .slice Ao14 y301.length co14]] rfl (by (try simp only [List.map_toArray, List.map_cons, List.map_nil]); first | done | rfl | (simp only [List.length_drop, List.length_take]; rfl)) ?_; (refine (ledger_Line_forgot 0 _ 0 0 _ 0 0 _ _ y301 t304 _ ?side5 (by rw [Ny301.out]; decide) (by rw [Ny301.out]; decide) A2.out).mono ?_); (case side5 => repeat (first | exact (Kd.R_reads' HO303.out).2.2 | (with_reducible refine Kd.C_alloc ?_ _) | (with_reducible refine Kd.C_drewN ?_ _) | (with_reducible refine Kd.C_drew ?_))); rintro e w15 ⟨rfl, hb⟩; refine ⟨_, rfl, ?_⟩; have n0_ := Aside0.mk (Kd.N_below (by (with_reducible repeat (first | apply Kd.N_alloc | apply Kd.N_drewN | apply Kd.N_drew)); exact HO298.out) hb); have n1_ := Aside0.mk (Kd.R_below (by (with_reducible repeat (first | apply Kd.R_alloc | apply Kd.R_drewN | apply Kd.R_drew)); exact HO303.out) hb); have n2_ := Aside0.mk (below_step (by repeat (first | (with_reducible first | exact HB.out | apply below_alloc | apply pw_below_drewN | apply below_drew1) | exact HB.out)) hb); clear HO298; clear HO303; clear HB; have HO298 := n0_; have HO303 := n1_; have HB := n2_; clear n0_ n1_ n2_; (try clear hb); (try clear hb2); (try clear hk); (try clear hi)))
  go_ret
  exact ⟨by first | rfl | (simp [errW_none, errW_some] <;> rfl) | (simp [*, errW_none, errW_some] <;> rfl), by repeat (first | (with_reducible first | exact HB.out | apply below_alloc | apply pw_below_drewN | apply below_drew1) | exact HB.out)⟩
end Go.Proofs.YtfaelejeihmgcaaDoor.Lgx
end

section
namespace Go.Proofs.YtfaelejeihmgcaaDoor.Lgx
open Go.RowKit Go.Proofs.YtfaelejeihmgcaaDoorW.PrintWords Go.Proofs.YtfaelejeihmgcaaDoorW.PrintLast
theorem replay_at (A : Option Addr) (c n : Nat) (l : List S43) (r1 : Int) (r2 : Bool) (w : World) (hn : l.length = n) (hr : Kd.C k43 w A l.length l) (hc : l.length ≤ c) (h : ledger_Replay.f l = some (r1, r2)) :
    Calls Tryd.prog 35 #[.slice A n c] w fun e w' => e = .returned (.tuple #[.int .i64 r1, .bool r2]) ∧ Below w.heap.size w w' := by
  subst hn
  exact ledger_Replay.calls A c l r1 r2 w hr hc h
theorem slice_head47 (A : Option Addr) (n c j : Nat) (hj : j ≤ n) (hc : n ≤ c) (W : World) : (Instr.slice 47 (.slice A n c) none (some (.int .i64 (j : Int))) none).run Tryd.prog W = .ok (.slice A j c) W := by
  have hjc : j ≤ c := by omega
  go_simp
set_option maxHeartbeats 4000000 in
set_option maxRecDepth 100000 in
theorem LedgerParts_walk (A0 : Option Addr) (c0 : Nat) (l0 : List S58) (a1 a2 : Int) (w : World) (hr0 : Kd.C k58 w A0 l0.length l0) (hc0 : l0.length ≤ c0) (hT : Tabs w) (x : List S43) (n m : Int) (ok is : Bool) (kk : Nat)
    (hev : cachepotlaw21_events.f l0 a1 = some x) (h1 : ledger_Replay.f x = some (n, ok)) (hx : x.length ≤ 1048576) (hk : pickI a2 ((x.length : Int) + 1) = kk) (hkl : kk ≤ x.length) (h2 : ledger_Replay.f (x.take kk) = some (m, is))
    (hres : (ok = true ∧ is = true ∧ m = kk) ∨ (ok = false ∧ (kk : Int) ≤ n ∧ is = true ∧ m = kk) ∨ (ok = false ∧ n < kk ∧ is = false ∧ m = n)) :
    Calls Tryd.prog 10 #[.slice A0 l0.length c0, .int .i64 a1, .int .i64 a2] w fun e w' => e = .returned (.bool true) ∧ Below w.heap.size w w' := by
  have Hev := Lib.hid hev
  have H1 := Lib.hid h1
  have H2 := Lib.hid h2
  have Hk := Lib.hid hk
  have Hc0 := Lib.hid hc0
  have htl : (x.take kk).length = kk := by rw [List.length_take]; omega
  have Htl := Lib.hid htl
  have pk : ∀ W : World, Calls Tryd.prog 25 #[.int .i64 a2, .int .i64 ((x.length : Int) + 1)] W fun e w' => e = .returned (.int .i64 kk) ∧ w' = W := fun W => by
    rw [← Hk.out]
    exact pick_same a2 ((x.length : Int) + 1) (by omega) (by omega) W
  clear hev h1 h2 hk hc0 htl
  go_enter Tryd.func10, Tryd.ntmps10
  go_wp2_with fail
  refine (cachepotlaw21_events.calls A0 c0 l0 a1 x w hr0 Hc0.out Hev.out hT).mono ?_
  rintro e w1 ⟨v, rfl, hR, hb1⟩
  obtain ⟨A, c, ev⟩ := Kd.R_slice hR
  subst ev
  obtain ⟨_, hxc, hC⟩ := Kd.R_reads' hR
  obtain ⟨htk, htc, hCt⟩ := Kd.R_reads' (Kd.R_take hR hkl)
  clear htk
  have Hxc := Lib.hid hxc
  have hkc : kk ≤ c := Nat.le_trans hkl hxc
  have hsl : ∀ W, (Instr.slice 47 (.slice A x.length c) none (some (.int .i64 (kk : Int))) none).run Tryd.prog W = .ok (.slice A kk c) W := fun W => slice_head47 A x.length c kk hkl hxc W
  clear hR hxc htc
  go_wp2_with fail
  refine (ledger_Replay.calls A c x n ok w1 hC Hxc.out H1.out).mono ?_
  rintro e w2 ⟨rfl, hb2⟩
  have hb12 := below_then hb1 hb1.size hb2
  go_wp2_with fail
  refine (pk _).mono ?_
  rintro e w2' ⟨rfl, rfl⟩
  go_wp2_with fail
  refine (replay_at A c kk (x.take kk) m is w2' Htl.out (Kd.C_below hCt hb2) (by rw [Htl.out]; exact hkc) H2.out).mono ?_
  rintro e w3 ⟨rfl, hb3⟩
  have hb13 := below_then hb12 hb12.size hb3
  go_wp2_with fail
  refine (alive_walk w3).mono ?_
  rintro e w4 ⟨rfl, hb4⟩
  have hb14 := below_then hb13 hb13.size hb4
  clear hb1 hb2 hb3 hb4 hb12 hb13 hsl pk
  rcases hres with ⟨rfl, rfl, rfl⟩ | ⟨rfl, hge, rfl, rfl⟩ | ⟨rfl, hlt, rfl, rfl⟩
  · go_wp2
    go_ret
    exact ⟨by simp, hb14⟩
  · have d1 : decide ((kk : Int) ≤ n) = true := decide_eq_true hge
    go_wp2
    go_ret
    exact ⟨by simp, hb14⟩
  · have d1 : decide ((kk : Int) ≤ m) = false := decide_eq_false (by omega)
    go_wp2
    go_ret
    exact ⟨by simp, hb14⟩
set_option maxHeartbeats 4000000 in
set_option maxRecDepth 100000 in
theorem LedgerReplays_walk (A0 : Option Addr) (c0 : Nat) (l0 : List S58) (a1 : Int) (w : World) (hr0 : Kd.C k58 w A0 l0.length l0) (hc0 : l0.length ≤ c0) (hT : Tabs w) (x : List S43) (n p : Int) (ok up : Bool) (k : Nat)
    (hev : cachepotlaw21_events.f l0 a1 = some x) (h1 : ledger_Replay.f x = some (n, ok)) (h2 : cachepotref3_Replay.f x = some (n, ok)) (h3 : ledger_Rising.f k x = some (p, up)) (h4 : cachepotref3_Rising.f k x = some (p, up)) :
    Calls Tryd.prog 11 #[.slice A0 l0.length c0, .int .i64 a1] w fun e w' => e = .returned (.bool true) ∧ Below w.heap.size w w' := by
  have Hev := Lib.hid hev
  have H1 := Lib.hid h1
  have H2 := Lib.hid h2
  have H3 := Lib.hid h3
  have H4 := Lib.hid h4
  have Hc0 := Lib.hid hc0
  clear hev h1 h2 h3 h4 hc0
  go_enter Tryd.func11, Tryd.ntmps11
  go_wp2_with fail
  refine (cachepotlaw21_events.calls A0 c0 l0 a1 x w hr0 Hc0.out Hev.out hT).mono ?_
  rintro e w1 ⟨v, rfl, hR, hb1⟩
  obtain ⟨A, c, ev⟩ := Kd.R_slice hR
  subst ev
  obtain ⟨_, hxc, hC⟩ := Kd.R_reads' hR
  have Hxc := Lib.hid hxc
  clear hR hxc
  go_wp2_with fail
  refine (ledger_Replay.calls A c x n ok w1 hC Hxc.out H1.out).mono ?_
  rintro e w2 ⟨rfl, hb2⟩
  go_wp2_with fail
  refine (cachepotref3_Replay.calls A c x n ok w2 (Kd.C_below hC hb2) Hxc.out H2.out).mono ?_
  rintro e w3 ⟨rfl, hb3⟩
  have hb23 := below_then hb2 hb2.size hb3
  go_wp2_with fail
  refine (ledger_Rising.calls k A c x p up w3 (Kd.C_below hC hb23) Hxc.out H3.out).mono ?_
  rintro e w4 ⟨rfl, hb4⟩
  have hb24 := below_then hb23 hb23.size hb4
  go_wp2_with fail
  refine (cachepotref3_Rising.calls k A c x p up w4 (Kd.C_below hC hb24) Hxc.out H4.out).mono ?_
  rintro e w5 ⟨rfl, hb5⟩
  have hb25 := below_then hb24 hb24.size hb5.below
  have hb15 := below_then hb1 hb1.size hb25
  go_wp2_with fail
  refine (alive_walk w5).mono ?_
  rintro e w6 ⟨rfl, hb6⟩
  have hb16 := below_then hb15 hb15.size hb6
  clear hb1 hb2 hb3 hb4 hb5 hb6 hb23 hb24 hb25 hb15
  go_wp2
  go_ret
  exact ⟨by simp, hb16⟩
end Go.Proofs.YtfaelejeihmgcaaDoor.Lgx
end

section
namespace Go.Proofs.YtfaelejeihmgcaaDoor.Lgx
open Go.RowKit Go.Proofs.YtfaelejeihmgcaaDoorW.PrintWords Go.Proofs.YtfaelejeihmgcaaDoorW.PrintLast
theorem w64s (x : Int) (h0 : -9223372036854775808 ≤ x) (h1 : x ≤ 9223372036854775807) : wrap64 x = x := by unfold wrap64; omega
theorem le_snoc {α : Type} {l : List α} {x : α} {P : α → Prop} (h : ∀ y ∈ l, P y) (hx : P x) : ∀ y ∈ l ++ [x], P y := fun y hy => by
  rcases List.mem_append.1 hy with h' | h'
  · exact h y h'
  · rw [List.mem_singleton.1 h']; exact hx
theorem len_snoc {α : Type} (l : List α) (x : α) : (l ++ [x]).length = l.length + 1 := by simp
theorem mn_in (a b : Int) (h0 : 0 ≤ a) (h1 : 0 ≤ b) : 0 ≤ mn a b ∧ mn a b ≤ a ∧ mn a b ≤ b := by
  unfold mn
  split <;> omega
theorem short_ok (s : ByteArray) (n : Int) (h0 : 0 ≤ n) : ∃ r, cachepotbook_Short.f s n = some r ∧ (r.size : Int) ≤ n := by
  obtain ⟨h1, h2, h3⟩ := mn_in (s.size : Int) n (by omega) h0
  unfold cachepotbook_Short.f
  rw [if_pos h1, if_pos h2]
  exact ⟨_, rfl, by rw [ByteArray.size_extract]; omega⟩
theorem texts_l0 (l : List ByteArray) (m n : Int) (hm : m ≤ 1000) (hn : 0 ≤ n) : ∀ (d k i : Nat) (acc : List ByteArray), (m - i).toNat = d → d < k → acc.length ≤ i → (i : Int) ≤ m → (∀ y ∈ acc, (y.size : Int) ≤ n) →
    ∃ r, cachepotbook_Texts.l0 k l m n acc (i : Int) = some r ∧ (r.length : Int) ≤ m ∧ ∀ y ∈ r, (y.size : Int) ≤ n := by
  intro d
  induction d with
  | zero =>
    intro k i acc hd hk ha hi hs
    obtain ⟨k, rfl⟩ : ∃ m, k = m + 1 := ⟨k - 1, by omega⟩
    simp only [cachepotbook_Texts.l0]
    by_cases h1 : (i : Int) < l.length
    · rw [if_pos h1, if_neg (by omega)]
      exact ⟨acc, rfl, by omega, hs⟩
    · rw [if_neg h1]
      exact ⟨acc, rfl, by omega, hs⟩
  | succ d ih =>
    intro k i acc hd hk ha hi hs
    obtain ⟨k, rfl⟩ : ∃ m, k = m + 1 := ⟨k - 1, by omega⟩
    simp only [cachepotbook_Texts.l0]
    by_cases h1 : (i : Int) < l.length
    · obtain ⟨r, hr, hr2⟩ := short_ok (rdOf ByteArray.empty l (i : Int)) n hn
      rw [if_pos h1, if_pos (by omega), if_pos (by omega), hr]
      simp only [Option.bind_some]
      rw [if_pos (by omega), w64s _ (by omega) (by omega)]
      exact ih k (i + 1) (acc ++ [r]) (by omega) (by omega) (by rw [len_snoc]; omega) (by omega) (le_snoc hs hr2)
    · rw [if_neg h1]
      exact ⟨acc, rfl, by omega, hs⟩
theorem texts_ok (l : List ByteArray) (k : Nat) (hk : 10 ≤ k) : ∃ r, cachepotbook_Texts.f k l 6 40 = some r ∧ r.length ≤ 6 ∧ ∀ y ∈ r, y.size ≤ 40 := by
  obtain ⟨r, h1, h2, h3⟩ := texts_l0 l 6 40 (by decide) (by decide) 6 k 0 [] (by decide) (by omega) (by simp) (by decide) (fun y hy => by simp at hy)
  exact ⟨r, h1, by omega, fun y hy => by have := h3 y hy; omega⟩
theorem bwrites_l0 (l : List S101) : ∀ (d k i : Nat) (acc : List S101), 6 - i = d → 2 * d + 1 < k → acc.length ≤ i → i ≤ 6 → (∀ y ∈ acc, y.f0.size ≤ 60 ∧ y.f2.size ≤ 60) →
    ∃ r, cachepotbook_Writes.l0 k l 6 acc (i : Int) = some r ∧ r.length ≤ 6 ∧ ∀ y ∈ r, y.f0.size ≤ 60 ∧ y.f2.size ≤ 60 := by
  intro d
  induction d with
  | zero =>
    intro k i acc hd hk ha hi hs
    obtain ⟨k, rfl⟩ : ∃ m, k = m + 2 := ⟨k - 2, by omega⟩
    simp only [cachepotbook_Writes.l0]
    by_cases h1 : (i : Int) < l.length
    · rw [if_pos h1, decide_eq_false (by omega)]
      simp only [cachepotbook_Writes.j1]
      rw [if_neg (by decide)]
      exact ⟨acc, rfl, by omega, hs⟩
    · rw [if_neg h1]
      simp only [cachepotbook_Writes.j1]
      rw [if_neg (by decide)]
      exact ⟨acc, rfl, by omega, hs⟩
  | succ d ih =>
    intro k i acc hd hk ha hi hs
    obtain ⟨k, rfl⟩ : ∃ m, k = m + 2 := ⟨k - 2, by omega⟩
    simp only [cachepotbook_Writes.l0]
    by_cases h1 : (i : Int) < l.length
    · obtain ⟨r, hr, hr2⟩ := short_ok (rd_T101 l (i : Int)).f0 60 (by decide)
      obtain ⟨q, hq, hq2⟩ := short_ok (rd_T101 l (i : Int)).f2 60 (by decide)
      rw [if_pos h1, decide_eq_true (by omega)]
      simp only [cachepotbook_Writes.j1]
      rw [if_pos trivial, if_pos (by omega), if_pos h1, hr]
      simp only [Option.bind_some]
      rw [hq]
      simp only [Option.bind_some]
      rw [if_pos (by omega), w64s _ (by omega) (by omega)]
      exact ih k (i + 1) (acc ++ [⟨r, (rd_T101 l (i : Int)).f1, q⟩]) (by omega) (by omega) (by rw [len_snoc]; omega) (by omega) (le_snoc hs ⟨by simp only; omega, by simp only; omega⟩)
    · rw [if_neg h1]
      simp only [cachepotbook_Writes.j1]
      rw [if_neg (by decide)]
      exact ⟨acc, rfl, by omega, hs⟩
theorem bwrites_ok (l : List S101) (k : Nat) (hk : 20 ≤ k) : ∃ r, cachepotbook_Writes.f k l 6 = some r ∧ r.length ≤ 6 ∧ ∀ y ∈ r, y.f0.size ≤ 60 ∧ y.f2.size ≤ 60 :=
  bwrites_l0 l 6 k 0 [] (by decide) (by omega) (by simp) (by decide) (fun y hy => by simp at hy)
/-- an answer of few bytes -/
def AnsB (V : Nat) (y : S98) : Prop := y.f0.size ≤ 60 ∧ y.f2.size ≤ V ∧ 0 ≤ y.f3 ∧ y.f3 ≤ 4294967295
theorem AnsB.mono {V V' : Nat} {y : S98} (h : AnsB V y) (hV : V ≤ V') : AnsB V' y := ⟨h.1, Nat.le_trans h.2.1 hV, h.2.2⟩
theorem rd98_any (l : List S98) (i : Int) : rd_T98 l i ∈ l ∨ rd_T98 l i = z98 := by
  unfold rd_T98
  rw [List.getD_eq_getElem?_getD]
  cases h : l[i.toNat]? with
  | none => exact .inr rfl
  | some x => exact .inl (List.mem_of_getElem? h)
theorem short_l0 (l : List S98) (t s : Int) (W : List S101) (T : List ByteArray) (hu : ∀ y ∈ l, 0 ≤ y.f3 ∧ y.f3 ≤ 4294967295) : ∀ (d k i : Nat) (acc : List S98), 6 - i = d → 2 * d + 1 < k → acc.length ≤ i → i ≤ 6 → (∀ y ∈ acc, AnsB 60 y) →
    ∃ r, cachepotlaw21_short.l0 k acc (i : Int) t s W l T = some (t, s, W, r, T) ∧ r.length ≤ 6 ∧ ∀ y ∈ r, AnsB 60 y := by
  intro d
  induction d with
  | zero =>
    intro k i acc hd hk ha hi hs
    obtain ⟨k, rfl⟩ : ∃ m, k = m + 2 := ⟨k - 2, by omega⟩
    simp only [cachepotlaw21_short.l0]
    by_cases h1 : (i : Int) < l.length
    · rw [if_pos h1, decide_eq_false (by omega)]
      simp only [cachepotlaw21_short.j1]
      rw [if_neg (by decide)]
      exact ⟨acc, rfl, by omega, hs⟩
    · rw [if_neg h1]
      simp only [cachepotlaw21_short.j1]
      rw [if_neg (by decide)]
      exact ⟨acc, rfl, by omega, hs⟩
  | succ d ih =>
    intro k i acc hd hk ha hi hs
    obtain ⟨k, rfl⟩ : ∃ m, k = m + 2 := ⟨k - 2, by omega⟩
    simp only [cachepotlaw21_short.l0]
    by_cases h1 : (i : Int) < l.length
    · obtain ⟨r, hr, hr2⟩ := short_ok (rd_T98 l (i : Int)).f0 40 (by decide)
      obtain ⟨q, hq, hq2⟩ := short_ok (rd_T98 l (i : Int)).f2 40 (by decide)
      have hf : 0 ≤ (rd_T98 l (i : Int)).f3 ∧ (rd_T98 l (i : Int)).f3 ≤ 4294967295 := by
        rcases rd98_any l i with h | h
        · exact hu _ h
        · rw [h]; exact ⟨by decide, by decide⟩
      rw [if_pos h1, decide_eq_true (by omega)]
      simp only [cachepotlaw21_short.j1]
      rw [if_pos trivial, if_pos (by omega), if_pos h1, hr]
      simp only [Option.bind_some]
      rw [hq]
      simp only [Option.bind_some]
      rw [if_pos (by omega), w64s _ (by omega) (by omega)]
      exact ih k (i + 1) (acc ++ [⟨r, (rd_T98 l (i : Int)).f1, q, (rd_T98 l (i : Int)).f3⟩]) (by omega) (by omega) (by rw [len_snoc]; omega) (by omega) (le_snoc hs ⟨by simp only; omega, by simp only; omega, hf⟩)
    · rw [if_neg h1]
      simp only [cachepotlaw21_short.j1]
      rw [if_neg (by decide)]
      exact ⟨acc, rfl, by omega, hs⟩
/-- an event of few things of few bytes -/
structure EvB (V : Nat) (e : S43) : Prop where
  q0 : 0 ≤ e.f1
  q1 : e.f1 ≤ 4294967295
  n2 : e.f2.length ≤ 6
  s2 : ∀ y ∈ e.f2, y.f0.size ≤ 60 ∧ y.f2.size ≤ 60
  n3 : e.f3.length ≤ 6
  s3 : ∀ y ∈ e.f3, AnsB V y
  n4 : e.f4.length ≤ 6
  s4 : ∀ y ∈ e.f4, y.size ≤ 60
theorem EvB.mono {V V' : Nat} {e : S43} (h : EvB V e) (hV : V ≤ V') : EvB V' e := ⟨h.q0, h.q1, h.n2, h.s2, h.n3, fun y hy => (h.s3 y hy).mono hV, h.n4, h.s4⟩
/-- what an event that is made short must keep -/
def EvU (e : S43) : Prop := 0 ≤ e.f1 ∧ e.f1 ≤ 4294967295 ∧ ∀ y ∈ e.f3, 0 ≤ y.f3 ∧ y.f3 ≤ 4294967295
theorem short_ev (e : S43) (hu : EvU e) (k : Nat) (hk : 30 ≤ k) : ∃ r, cachepotlaw21_short.f k e.f0 e.f1 e.f2 e.f3 e.f4 = some r ∧ EvB 60 ⟨r.1, r.2.1, r.2.2.1, r.2.2.2.1, r.2.2.2.2⟩ := by
  obtain ⟨w, hw, w1, w2⟩ := bwrites_ok e.f2 k (by omega)
  obtain ⟨t, ht, t1, t2⟩ := texts_ok e.f4 k (by omega)
  obtain ⟨a, ha, a1, a2⟩ := short_l0 e.f3 (pickI e.f0 5) e.f1 w t hu.2.2 6 k 0 [] (by decide) (by omega) (by simp) (by decide) (fun y hy => by simp at hy)
  refine ⟨(pickI e.f0 5, e.f1, w, a, t), ?_, ⟨hu.1, hu.2.1, w1, w2, a1, a2, t1, fun y hy => Nat.le_trans (t2 y hy) (by decide)⟩⟩
  unfold cachepotlaw21_short.f
  rw [pickI_f _ _ (by decide) (by decide)]
  simp only [Option.bind_some]
  rw [hw]
  simp only [Option.bind_some]
  rw [ht]
  simp only [Option.bind_some]
  exact ha
theorem name_size (i : Int) : (nameAt i).size ≤ 4 := by
  have h : ∀ l ∈ namesL, l.length ≤ 4 := by decide
  unfold nameAt
  show ((namesL.getD i.toNat []).toArray).size ≤ 4
  rw [List.size_toArray, List.getD_eq_getElem?_getD]
  cases hx : namesL[i.toNat]? with
  | none => simp
  | some x => exact h x (List.mem_of_getElem? hx)
theorem key_f (n : Int) : cachepothand_Key.f n = some (nameAt (pickI n 12)) := by
  unfold cachepothand_Key.f
  rw [pickI_f _ _ (by decide) (by decide)]
  rfl
theorem keys_l0 (l : List Int) (m : Int) (hm : m ≤ 1000) : ∀ (d k i : Nat) (acc : List ByteArray), (m - i).toNat = d → d < k → acc.length ≤ i → (i : Int) ≤ m → (∀ y ∈ acc, y.size ≤ 4) →
    ∃ r, cachepothand_Keys.l0 k l m acc (i : Int) = some r ∧ (r.length : Int) ≤ m ∧ ∀ y ∈ r, y.size ≤ 4 := by
  intro d
  induction d with
  | zero =>
    intro k i acc hd hk ha hi hs
    obtain ⟨k, rfl⟩ : ∃ m, k = m + 1 := ⟨k - 1, by omega⟩
    simp only [cachepothand_Keys.l0]
    by_cases h1 : (i : Int) < l.length
    · rw [if_pos h1, if_neg (by omega)]
      exact ⟨acc, rfl, by omega, hs⟩
    · rw [if_neg h1]
      exact ⟨acc, rfl, by omega, hs⟩
  | succ d ih =>
    intro k i acc hd hk ha hi hs
    obtain ⟨k, rfl⟩ : ∃ m, k = m + 1 := ⟨k - 1, by omega⟩
    simp only [cachepothand_Keys.l0]
    by_cases h1 : (i : Int) < l.length
    · rw [if_pos h1, if_pos (by omega), if_pos (by omega), key_f]
      simp only [Option.bind_some]
      rw [if_pos (by omega), w64s _ (by omega) (by omega)]
      exact ih k (i + 1) (acc ++ [nameAt (pickI (rd l (i : Int)) 12)]) (by omega) (by omega) (by rw [len_snoc]; omega) (by omega) (le_snoc hs (name_size _))
    · rw [if_neg h1]
      exact ⟨acc, rfl, by omega, hs⟩
theorem keys_ok (l : List Int) (m : Nat) (hm : m ≤ 5) (k : Nat) (hk : 10 ≤ k) : ∃ r, cachepothand_Keys.f k l m = some r ∧ r.length ≤ m ∧ ∀ y ∈ r, y.size ≤ 4 := by
  obtain ⟨r, h1, h2, h3⟩ := keys_l0 l m (by omega) m k 0 [] (by omega) (by omega) (by simp) (by omega) (fun y hy => by simp at hy)
  exact ⟨r, h1, by omega, h3⟩
theorem fill_l0 : ∀ (d k i : Nat) (xs : List Int), 40 - i = d → d < k → i ≤ 40 → xs.length = 40 → ∃ r, cachepotref1_Fill.l0 k 120 xs (i : Int) = some r ∧ r.size = 40 := by
  intro d
  induction d with
  | zero =>
    intro k i xs hd hk hi hx
    obtain ⟨k, rfl⟩ : ∃ m, k = m + 1 := ⟨k - 1, by omega⟩
    simp only [cachepotref1_Fill.l0]
    rw [if_neg (by omega)]
    exact ⟨_, rfl, by rw [strOfNums_size, hx]⟩
  | succ d ih =>
    intro k i xs hd hk hi hx
    obtain ⟨k, rfl⟩ : ∃ m, k = m + 1 := ⟨k - 1, by omega⟩
    simp only [cachepotref1_Fill.l0]
    rw [if_pos (by omega), if_pos (by omega), w64s _ (by omega) (by omega)]
    exact ih k (i + 1) _ (by omega) (by omega) (by omega) (by rw [List.length_set, hx])
theorem fill_ok (k : Nat) (hk : 50 ≤ k) : ∃ r, cachepotref1_Fill.f k 120 40 = some r ∧ r.size = 40 := by
  unfold cachepotref1_Fill.f
  rw [if_pos (by decide), if_pos (by decide)]
  exact fill_l0 40 k 0 _ (by decide) (by omega) (by decide) (by rw [List.length_replicate]; rfl)
theorem val_ok (s : ByteArray) (n : Int) (hs : s.size ≤ 140737488355328) (k : Nat) (hk : 50 ≤ k) : ∃ r, cachepothand_Val.f k s n = some r ∧ r.size ≤ 60 := by
  unfold cachepothand_Val.f
  rw [pickI_f _ _ (by decide) (by decide)]
  simp only [Option.bind_some]
  split
  · obtain ⟨t, ht, ht2⟩ := fill_ok k hk
    obtain ⟨r, hr, hr2⟩ := short_ok (s ++ t) 48 (by decide)
    rw [ht]
    simp only [Option.bind_some]
    rw [if_pos (by omega), hr]
    exact ⟨r, rfl, by omega⟩
  · obtain ⟨r, hr, hr2⟩ := short_ok s 48 (by decide)
    rw [hr]
    exact ⟨r, rfl, by omega⟩
/-- a write of few bytes -/
def WrB (y : S101) : Prop := y.f0.size ≤ 60 ∧ y.f2.size ≤ 60
theorem rd101_any (l : List S101) (i : Int) : rd_T101 l i ∈ l ∨ rd_T101 l i = z101 := by
  unfold rd_T101
  rw [List.getD_eq_getElem?_getD]
  cases h : l[i.toNat]? with
  | none => exact .inr rfl
  | some x => exact .inl (List.mem_of_getElem? h)
theorem rd101_b {l : List S101} (h : ∀ y ∈ l, WrB y) (i : Int) : WrB (rd_T101 l i) := by
  rcases rd101_any l i with h' | h'
  · exact h _ h'
  · rw [h']; exact ⟨by decide, by decide⟩
theorem find_l0 (l : List S101) (hl : l.length ≤ 1000) (hs : ∀ y ∈ l, WrB y) (key : ByteArray) : ∀ (d k : Nat), d ≤ l.length → d < k → ∃ r, cachepotref1_BatchFind.l0 k l key ((d : Int) - 1) = some r ∧ r.1.size ≤ 60 ∧ r.2.2.1.size ≤ 60 := by
  intro d
  induction d with
  | zero =>
    intro k hd hk
    obtain ⟨k, rfl⟩ : ∃ m, k = m + 1 := ⟨k - 1, by omega⟩
    simp only [cachepotref1_BatchFind.l0]
    rw [if_neg (by omega)]
    exact ⟨_, rfl, by decide, by decide⟩
  | succ d ih =>
    intro k hd hk
    obtain ⟨k, rfl⟩ : ∃ m, k = m + 1 := ⟨k - 1, by omega⟩
    simp only [cachepotref1_BatchFind.l0]
    rw [if_pos (by omega), if_pos (by omega), if_pos (by omega)]
    split
    · have := rd101_b hs (((d + 1 : Nat) : Int) - 1)
      exact ⟨_, rfl, this.1, this.2⟩
    · rw [show wrap64 (((d + 1 : Nat) : Int) - 1 - 1) = (d : Int) - 1 from by rw [w64s _ (by omega) (by omega)]; omega]
      exact ih k (by omega) (by omega)
theorem find_ok (l : List S101) (hl : l.length ≤ 1000) (hs : ∀ y ∈ l, WrB y) (key : ByteArray) (k : Nat) (hk : 1010 ≤ k ∨ l.length + 1 ≤ k) : ∃ r, cachepotref1_BatchFind.f k l key = some r ∧ r.1.size ≤ 60 ∧ r.2.2.1.size ≤ 60 := by
  unfold cachepotref1_BatchFind.f
  rw [w64s _ (by omega) (by omega)]
  exact find_l0 l hl hs key l.length k (Nat.le_refl _) (by omega)
theorem bkeys_l0 (l : List S101) (hl : l.length ≤ 1000) (hs : ∀ y ∈ l, WrB y) : ∀ (d k i : Nat) (acc : List ByteArray), l.length - i = d → d < k → i ≤ l.length → acc.length = i → (∀ y ∈ acc, y.size ≤ 60) →
    ∃ r, cachepotref1_BatchKeys.l0 k l acc (i : Int) = some r ∧ r.length ≤ l.length ∧ ∀ y ∈ r, y.size ≤ 60 := by
  intro d
  induction d with
  | zero =>
    intro k i acc hd hk hi ha hs2
    obtain ⟨k, rfl⟩ : ∃ m, k = m + 1 := ⟨k - 1, by omega⟩
    simp only [cachepotref1_BatchKeys.l0]
    rw [if_neg (by omega)]
    have hsh : shortK acc = true := by
      unfold shortK
      simp only [Bool.and_eq_true, decide_eq_true_eq, List.all_eq_true]
      exact ⟨by omega, fun y hy => Nat.le_trans (hs2 y hy) (by decide)⟩
    unfold cachepotref1_KeysSorted.f
    rw [if_pos hsh]
    exact ⟨_, rfl, by have := sortedF_len acc; omega, fun y hy => hs2 y (sortedF_mem hy)⟩
  | succ d ih =>
    intro k i acc hd hk hi ha hs2
    obtain ⟨k, rfl⟩ : ∃ m, k = m + 1 := ⟨k - 1, by omega⟩
    simp only [cachepotref1_BatchKeys.l0]
    rw [if_pos (by omega), if_pos (by omega), if_pos (by omega), w64s _ (by omega) (by omega)]
    exact ih k (i + 1) _ (by omega) (by omega) (by omega) (by rw [len_snoc, ha]) (le_snoc hs2 (rd101_b hs _).1)
theorem make_l0 (l : List S101) (hl : l.length ≤ 1000) (hs : ∀ y ∈ l, WrB y) (ks : List ByteArray) (hks : ks.length ≤ l.length) : ∀ (d k i : Nat) (acc : List S101), ks.length - i = d → d + l.length + 1 < k → i ≤ ks.length → acc.length = i → (∀ y ∈ acc, WrB y) →
    ∃ r, cachepotref1_BatchMake.l0 k l ks acc (i : Int) = some r ∧ r.length = ks.length ∧ ∀ y ∈ r, WrB y := by
  intro d
  induction d with
  | zero =>
    intro k i acc hd hk hi ha hs2
    obtain ⟨k, rfl⟩ : ∃ m, k = m + 1 := ⟨k - 1, by omega⟩
    simp only [cachepotref1_BatchMake.l0]
    rw [if_neg (by omega)]
    exact ⟨acc, rfl, by omega, hs2⟩
  | succ d ih =>
    intro k i acc hd hk hi ha hs2
    obtain ⟨k, rfl⟩ : ∃ m, k = m + 1 := ⟨k - 1, by omega⟩
    obtain ⟨r, hr, r1, r2⟩ := find_ok l hl hs (rdOf ByteArray.empty ks (i : Int)) k (.inr (by omega))
    simp only [cachepotref1_BatchMake.l0]
    rw [if_pos (by omega), if_pos (by omega), hr]
    simp only [Option.bind_some]
    split
    · rw [if_pos (by omega), w64s _ (by omega) (by omega)]
      exact ih k (i + 1) _ (by omega) (by omega) (by omega) (by rw [len_snoc, ha]) (le_snoc hs2 ⟨r1, by simp only; decide⟩)
    · rw [if_pos (by omega), w64s _ (by omega) (by omega)]
      exact ih k (i + 1) _ (by omega) (by omega) (by omega) (by rw [len_snoc, ha]) (le_snoc hs2 ⟨r1, r2⟩)
theorem make_ok (l : List S101) (hl : l.length ≤ 5) (hs : ∀ y ∈ l, WrB y) (k : Nat) (hk : 20 ≤ k) : ∃ r, cachepotref1_BatchMake.f k l = some r ∧ r.length ≤ 5 ∧ ∀ y ∈ r, WrB y := by
  obtain ⟨ks, h1, h2, _⟩ := bkeys_l0 l (by omega) hs l.length k 0 [] (by omega) (by omega) (by omega) rfl (fun y hy => by simp at hy)
  obtain ⟨r, h3, h4, h5⟩ := make_l0 l (by omega) hs ks h2 ks.length k 0 [] (by omega) (by omega) (by omega) rfl (fun y hy => by simp at hy)
  refine ⟨r, ?_, by omega, h5⟩
  unfold cachepotref1_BatchMake.f cachepotref1_BatchKeys.f
  rw [show cachepotref1_BatchKeys.l0 k l [] 0 = some ks from h1]
  exact h3
theorem writes_end (l : List S139) (acc : List S101) (i : Int) (k : Nat) (hk : 50 ≤ k) (ha : acc.length ≤ 5) (hs : ∀ y ∈ acc, WrB y) : ∃ r, cachepothand_Writes.j1 k l 5 acc i false = some r ∧ r.length ≤ 5 ∧ ∀ y ∈ r, WrB y := by
  obtain ⟨k, rfl⟩ : ∃ m, k = m + 1 := ⟨k - 1, by omega⟩
  simp only [cachepothand_Writes.j1]
  rw [if_neg (by decide)]
  split
  · obtain ⟨r, h1, h2, h3⟩ := make_ok [⟨⟨#[97]⟩, false, ⟨#[49]⟩⟩] (by decide) (fun y hy => by rw [List.mem_singleton.1 hy]; exact ⟨by decide, by decide⟩) k (by omega)
    rw [h1]
    exact ⟨r, rfl, h2, h3⟩
  · obtain ⟨r, h1, h2, h3⟩ := make_ok acc ha hs k (by omega)
    rw [h1]
    exact ⟨r, rfl, h2, h3⟩
theorem rd139_any (l : List S139) (i : Int) : rd_T139 l i ∈ l ∨ rd_T139 l i = z139 := by
  unfold rd_T139
  rw [List.getD_eq_getElem?_getD]
  cases h : l[i.toNat]? with
  | none => exact .inr rfl
  | some x => exact .inl (List.mem_of_getElem? h)
theorem writes_l0 (l : List S139) (hl : ∀ y ∈ l, y.f2.size ≤ 140737488355328) : ∀ (d k i : Nat) (acc : List S101), 5 - i = d → 2 * d + 100 < k → acc.length ≤ i → i ≤ 5 → (∀ y ∈ acc, WrB y) →
    ∃ r, cachepothand_Writes.l0 k l 5 acc (i : Int) = some r ∧ r.length ≤ 5 ∧ ∀ y ∈ r, WrB y := by
  intro d
  induction d with
  | zero =>
    intro k i acc hd hk ha hi hs
    obtain ⟨k, rfl⟩ : ∃ m, k = m + 1 := ⟨k - 1, by omega⟩
    simp only [cachepothand_Writes.l0]
    by_cases h1 : (i : Int) < l.length
    · rw [if_pos h1, decide_eq_false (by omega)]
      exact writes_end l acc i k (by omega) (by omega) hs
    · rw [if_neg h1]
      exact writes_end l acc i k (by omega) (by omega) hs
  | succ d ih =>
    intro k i acc hd hk ha hi hs
    obtain ⟨k, rfl⟩ : ∃ m, k = m + 2 := ⟨k - 2, by omega⟩
    simp only [cachepothand_Writes.l0]
    by_cases h1 : (i : Int) < l.length
    · have hv : (rd_T139 l (i : Int)).f2.size ≤ 140737488355328 := by
        rcases rd139_any l i with h | h
        · exact hl _ h
        · rw [h]; decide
      obtain ⟨v, hv1, hv2⟩ := val_ok (rd_T139 l (i : Int)).f2 (wrap64 (Int.tdiv (rd_T139 l (i : Int)).f0 12)) hv k (by omega)
      rw [if_pos h1, decide_eq_true (by omega)]
      simp only [cachepothand_Writes.j1]
      rw [if_pos trivial, if_pos (by omega), if_pos h1, key_f]
      simp only [Option.bind_some]
      split
      · rw [if_pos (by omega), w64s _ (by omega) (by omega)]
        exact ih k (i + 1) _ (by omega) (by omega) (by rw [len_snoc]; omega) (by omega) (le_snoc hs ⟨Nat.le_trans (name_size _) (by decide), by simp only; decide⟩)
      · rw [hv1]
        simp only [Option.bind_some]
        rw [if_pos (by omega), w64s _ (by omega) (by omega)]
        exact ih k (i + 1) _ (by omega) (by omega) (by rw [len_snoc]; omega) (by omega) (le_snoc hs ⟨Nat.le_trans (name_size _) (by decide), hv2⟩)
    · rw [if_neg h1]
      exact writes_end l acc i (k + 1) (by omega) (by omega) hs
theorem writes_ok (l : List S139) (hl : ∀ y ∈ l, y.f2.size ≤ 140737488355328) (k : Nat) (hk : 200 ≤ k) : ∃ r, cachepothand_Writes.f k l 5 = some r ∧ r.length ≤ 5 ∧ ∀ y ∈ r, WrB y :=
  writes_l0 l hl 5 k 0 [] (by decide) (by omega) (by simp) (by decide) (fun y hy => by simp at hy)
end Go.Proofs.YtfaelejeihmgcaaDoor.Lgx
end

section
namespace Go.Proofs.YtfaelejeihmgcaaDoor.Lgx
open Go.RowKit Go.Proofs.YtfaelejeihmgcaaDoorW.PrintWords Go.Proofs.YtfaelejeihmgcaaDoorW.PrintLast
theorem toList_eq_iff {a b : ByteArray} : a.toList = b.toList ↔ a = b :=
  ⟨fun h => Atm.bytes_inj (by rw [← ByteArray.toList_eq, ← ByteArray.toList_eq]; exact h), fun h => by rw [h]⟩
theorem look_skip {k : ByteArray} : ∀ (l : List S98) (a : S98), (∀ y ∈ l, y.f0 ≠ k) → l.foldl (lookStep k) a = a
  | [], _, _ => rfl
  | y :: l, a, h => by
    rw [List.foldl_cons, lookStep, if_neg (fun e => h y (by simp) (toList_eq_iff.1 e))]
    exact look_skip l a (fun z hz => h z (by simp [hz]))
theorem look_filter {k x : ByteArray} (hk : k ≠ x) : ∀ (l : List S98) (a : S98), (withoutF x l).foldl (lookStep k) a = l.foldl (lookStep k) a
  | [], _ => rfl
  | y :: l, a => by
    have ih := look_filter hk l
    unfold withoutF at ih ⊢
    by_cases hy : y.f0 = x
    · have hs : lookStep k a y = a := by rw [lookStep, if_neg (fun e => hk ((toList_eq_iff.1 e).symm.trans hy))]
      rw [List.filter_cons_of_neg (by simp [hy]), List.foldl_cons, hs, ih]
    · have hy' : y.f0.toList ≠ x.toList := fun e => hy (toList_eq_iff.1 e)
      rw [List.filter_cons_of_pos (by simpa using hy'), List.foldl_cons, List.foldl_cons, ih]
theorem without_ne {x : ByteArray} {L : List S98} : ∀ y ∈ withoutF x L, y.f0 ≠ x := fun y hy e => by
  have := (List.mem_filter.1 hy).2
  simp [e] at this
theorem look_without (x k : ByteArray) (L : List S98) : lookF (withoutF x L) k = if k = x then ⟨k, false, ⟨#[]⟩, 0⟩ else lookF L k := by
  unfold lookF
  split
  · rename_i h
    subst h
    exact look_skip _ _ without_ne
  · rename_i h
    exact look_filter h L _
theorem look_ins (seq : Int) (x : S101) (R : List S98) (hR : ∀ y ∈ R, y.f0 ≠ x.f0) (k : ByteArray) : lookF (insF seq x R) k = if k = x.f0 then ⟨x.f0, true, x.f2, seq⟩ else lookF R k := by
  unfold lookF insF
  rw [List.foldl_append, List.foldl_append, List.foldl_cons, List.foldl_nil]
  split
  · rename_i h
    rw [look_skip (R.drop _) _ (fun y hy => by rw [h]; exact hR y (List.mem_of_mem_drop hy)), lookStep, if_pos (by rw [h])]
  · rename_i h
    rw [lookStep, if_neg (fun e => h (toList_eq_iff.1 e).symm)]
    conv => rhs; rw [← List.take_append_drop (placeF x.f0 R) R, List.foldl_append]
/-- a row of answers tells what a map of keys tells -/
def Tells (L : List S98) (M : ByteArray → Atm.Had) : Prop := ∀ k, lookF L k = ⟨k, (M k).1, (M k).2.1, (M k).2.2⟩
theorem Tells.none : Tells [] (fun _ => Atm.nought) := fun _ => rfl
theorem Tells.get {L : List S98} {M : ByteArray → Atm.Had} (h : Tells L M) (l : List ByteArray) : refGetF L l = getM M l :=
  List.map_congr_left fun k _ => h k
theorem Tells.without {L : List S98} {M : ByteArray → Atm.Had} (h : Tells L M) (x : ByteArray) : Tells (withoutF x L) (Atm.putM M x Atm.nought) := fun k => by
  rw [look_without, Atm.putM]
  split
  · rfl
  · exact h k
theorem Tells.forget (l : List ByteArray) : ∀ {L : List S98} {M : ByteArray → Atm.Had}, Tells L M → Tells (forgetF l L) (forgetM l M) := by
  induction l with
  | nil => intro L M h; exact h
  | cons x l ih => intro L M h; exact ih (h.without x)
theorem Tells.commit1 {L : List S98} {M : ByteArray → Atm.Had} (h : Tells L M) (seq : Int) (x : S101) : Tells (commit1 seq x L) (Atm.putM M x.f0 (if x.f1 then Atm.nought else (true, x.f2, seq))) := by
  unfold Lgx.commit1
  by_cases hx : x.f1 = true
  · rw [if_pos hx, if_pos hx]
    exact h.without x.f0
  · rw [if_neg hx, if_neg hx]
    intro k
    rw [look_ins seq x _ without_ne, look_without, Atm.putM]
    split
    · rename_i e
      rw [e]
    · exact h k
theorem Tells.commit (seq : Int) (l : List S101) : ∀ {L : List S98} {M : ByteArray → Atm.Had}, Tells L M → Tells (commitF seq l L) (commitM seq l M) := by
  induction l with
  | nil => intro L M h; exact h
  | cons x l ih => intro L M h; exact ih (h.commit1 seq x)
theorem Tells.step {L : List S98} {M : ByteArray → Atm.Had} (h : Tells L M) (e : S43) : Tells (stepR e L) (stepM e M) := by
  unfold stepR stepM
  split
  · exact h.commit _ _
  · split
    · exact Tells.forget _ h
    · exact h
theorem Tells.fails_eq {L : List S98} {M : ByteArray → Atm.Had} (h : Tells L M) (e : S43) : failsR e L = fails e M := by
  unfold failsR fails
  rw [h.get]
theorem replay_eq : ∀ (l : List S43) (i : Nat) {L : List S98} {M : ByteArray → Atm.Had}, Tells L M → replayR i L l = replayM i M l
  | [], _, _, _, _ => rfl
  | e :: l, i, L, M, h => by
    rw [replayR, replayM, h.fails_eq e, replay_eq l (i + 1) (h.step e)]
theorem replay_true : ∀ (l : List S43) (i : Nat) (M : ByteArray → Atm.Had) (n : Int), replayM i M l = (n, true) → n = i + l.length
  | [], i, M, n, h => by
    simp only [replayM, Prod.mk.injEq] at h
    simp [← h.1]
  | e :: l, i, M, n, h => by
    rw [replayM] at h
    split at h
    · simp at h
    · have := replay_true l (i + 1) _ n h
      rw [this, List.length_cons]
      omega
theorem replay_false : ∀ (l : List S43) (i : Nat) (M : ByteArray → Atm.Had) (n : Int), replayM i M l = (n, false) → (i : Int) ≤ n ∧ n < i + l.length
  | [], i, M, n, h => by simp [replayM] at h
  | e :: l, i, M, n, h => by
    rw [replayM] at h
    split at h
    · simp only [Prod.mk.injEq] at h
      rw [List.length_cons]
      omega
    · have := replay_false l (i + 1) _ n h
      rw [List.length_cons]
      omega
theorem replay_take : ∀ (l : List S43) (i k : Nat) (M : ByteArray → Atm.Had), k ≤ l.length →
    replayM i M (l.take k) = if (replayM i M l).2 = true ∨ (i + k : Int) ≤ (replayM i M l).1 then ((i + k : Int), true) else ((replayM i M l).1, false)
  | [], i, k, M, hk => by
    obtain rfl : k = 0 := by simpa using hk
    simp [replayM]
  | e :: l, i, 0, M, _ => by
    have hb : (i : Int) ≤ (replayM i M (e :: l)).1 := by
      generalize hr : replayM i M (e :: l) = r
      obtain ⟨n, b⟩ := r
      cases b
      · exact (replay_false _ _ _ _ hr).1
      · have := replay_true _ _ _ _ hr
        simp only [this]
        omega
    rw [if_pos (.inr (by simpa using hb))]
    simp [replayM]
  | e :: l, i, k + 1, M, hk => by
    have ih := replay_take l (i + 1) k (stepM e M) (by simpa using hk)
    rw [List.take_succ_cons, replayM, replayM]
    split
    · rw [if_neg (by simp; omega)]
    · rw [ih]
      rw [show ((i + 1 : Nat) + k : Int) = (i : Int) + ((k + 1 : Nat) : Int) by omega]
end Go.Proofs.YtfaelejeihmgcaaDoor.Lgx
end
