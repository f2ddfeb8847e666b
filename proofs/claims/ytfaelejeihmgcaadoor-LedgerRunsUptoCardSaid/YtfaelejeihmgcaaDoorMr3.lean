/-
  Texts of mine, and texts that print.sh and pp.py wrote, merged and cut to what is used: Lg14, Lg15, HandT, PureT, HandQ, PureS, PureW, HandWh, HandWw, HandZ
-/
import Derived.Test.YtfaelejeihmgcaaDoorProg
import Derived.Below
import Derived.Lib.ItoaMem
import Derived.Lib.LaidTab
import Derived.Deep.Draws
import Derived.Deep.AppendLies
import Derived.Maps.AppendAt
import Derived.OwnWalk
import Derived.Laws.BytesArg
import Derived.Laws.MakeOwn
import Derived.Laws.OwnMore
import Derived.Deep.OwnRows
import Derived.Tactics
import Derived.Lib.ConvBytes
import Derived.Laws.Slices
import Derived.WalkKit
import Derived.KernelRfl
import Derived.RowKit3
import Derived.Deep.LoopGhost
import Derived.Deep.QuietTactic
import Derived.BigQuiet
import Derived.WideLaws
import Derived.Deep.DeepCutAuto
import Derived.Deep.CutBlock
import Derived.Deep.RegionHeld3
import Derived.Laws.Rows
import Derived.Lib.AppendStr
import Derived.ArgAppend
import Derived.Laws.IdiomCopy
import Derived.RowKit
import Derived.Test.YtfaelejeihmgcaaDoorRows
import Derived.ChangeArms
import Derived.DataReads
import Derived.DataElems
import Derived.OrdersHeld
import Derived.Laws.BitsLemmas
import Derived.Laws.StructEq
import Derived.Test.YtfaelejeihmgcaaDoorCards
import Derived.Test.YtfaelejeihmgcaaDoorTie
import Derived.Lib.LaidU8
import Derived.LaidMore
import Derived.Lay
import Derived.ProofKit
import Derived.OpenShut
import Derived.SevenTiedAt
import Derived.Stop.Joined
import Derived.Deep.DeepHandedRow
import Derived.SliceStrings
import Derived.Carry
import Derived.Shelf.Strconv.Itoa0
import Derived.Shelf.Strconv.Itoa1
import Derived.Shelf.LaysM
import Derived.Shelf.Strconv.Itoa2
import Derived.Lib.Strings
import Derived.Lib.Slices
import Derived.Lib.Walk
import Derived.Lib.Builder
import Derived.Lib.UnsafeStr
import Derived.Shelf.Strings.Builder1
import Derived.Shelf.Strings.OnBuilder
import Derived.Shelf.Unicode.DecodeSlow
import Derived.Shelf.Unicode.DecodeAny
import Derived.Laws.Externs
import Derived.Lib.DecodeNEq
import Derived.StillTailTactics
import Derived.Outline
import Derived.Lib.Hide
import Derived.IntWalk
import Derived.WalkSpells
import Derived.Tactics2
import Derived.Laws.Pointers
import Derived.Lib.AppendIntMem
import Derived.BigCall
import Derived.BigGuard
import Derived.FnData
import Derived.Deep.MidRow
import Derived.Maps.OwnSet
import Derived.StillTactics
import Derived.Test.YtfaelejeihmgcaaDoorMr0
import Derived.Test.YtfaelejeihmgcaaDoorMr1
import Derived.Test.YtfaelejeihmgcaaDoorMr2

section
namespace Go.Proofs.YtfaelejeihmgcaaDoor.Lgx
open Go.RowKit Go.Proofs.YtfaelejeihmgcaaDoorW.PrintWords Go.Proofs.YtfaelejeihmgcaaDoorW.PrintLast Go.Proofs.YtfaelejeihmgcaaDoorW.PrintMore
attribute [local go_sem] max2_int min2_int max_two min_two max_three min_three max_four min_four   -- for this text's walks alone
set_option linter.unusedVariables false
set_option linter.unusedSimpArgs false
def cachepotref1_BatchMake.l0 : Nat → List (S101) → List ByteArray → List (S101) → Int → Option ((List (S101)))
  | 0, _, _, _, _ => none
  | k + 1, x0, x3, x4, x5 => if x5 < (x3.length : Int) then (if 0 ≤ x5 then ((cachepotref1_BatchFind.f k x0 (rdOf ByteArray.empty x3 x5)).bind fun bt326 => (if bt326.2.1 = true then (if x4.length < 3518437208883 then (cachepotref1_BatchMake.l0 k x0 x3 (x4 ++ [(⟨bt326.1, bt326.2.1, (⟨#[]⟩ : ByteArray)⟩ : S101)]) (wrap64 (x5 + 1))) else (none)) else (if x4.length < 3518437208883 then (cachepotref1_BatchMake.l0 k x0 x3 (x4 ++ [(⟨bt326.1, bt326.2.1, bt326.2.2.1⟩ : S101)]) (wrap64 (x5 + 1))) else (none)))) else (none)) else (some x4)
def cachepotref1_BatchMake.f (k : Nat) (l0 : List (S101)) : Option ((List (S101))) := (cachepotref1_BatchKeys.f k l0).bind fun t322 => (cachepotref1_BatchMake.l0 k l0 t322 ([] : List (S101)) 0)
set_option maxHeartbeats 8000000 in
set_option maxRecDepth 100000 in
theorem cachepotref1_BatchMake.calls (k : Nat) (A0 : Option Addr) (c0 : Nat) (l0 : List (S101)) (r : List (S101)) (w : World) (hr0 : Kd.C k101 w A0 l0.length l0) (hc0 : l0.length ≤ c0) (h : cachepotref1_BatchMake.f k l0 = some r) :
    Calls Tryd.prog 101 #[.slice A0 l0.length c0] w fun e w' => ∃ v0_ : Value, e = .returned (v0_) ∧ Kd.R k101 101 w' w.heap.size (fun _ => True) v0_ r ∧ Below w.heap.size w w' := by
  have hu101 := Tryd.underlying101
  have HR0 := Aside0.mk hr0
  have HC0 := Aside0.mk hc0
  clear hr0 hc0
  have HB := Aside0.mk (Below.refl w.heap.size w)
  have H : ((cachepotref1_BatchKeys.f k l0).bind fun t322 => (cachepotref1_BatchMake.l0 k l0 t322 ([] : List (S101)) 0)) = some r := h
  clear h
  replace H := Option.bind_eq_some_iff.mp H
  obtain ⟨t322, A20, H⟩ := H
  replace H : (cachepotref1_BatchMake.l0 k l0 t322 ([] : List (S101)) 0) = some r := H
  have A2 := Aside0.mk A20
  clear A20
  have H' := Aside0.mk H
  clear H
  go_enter Tryd.func101, Tryd.ntmps101
  go_wp2_with (first | ((with_reducible refine gate_callee (f := 120) rfl ?_); refine goesL_ (some 9) rfl rfl Tryd.func120 (by kernel_rfl) rfl #[.slice A0 l0.length c0] rfl (by (try simp only [List.map_toArray, List.map_cons, List.map_nil]); first | done | rfl | (simp only [List.length_drop, List.length_take]; rfl)) ?_; (with_reducible refine (cachepotref1_BatchKeys.calls k _ _ l0 t322 _ ?side1 ?side2 A2.out).mono ?_); (case side1 => repeat (first | exact HR0.out | (with_reducible refine Kd.C_alloc ?_ _) | (with_reducible refine Kd.C_drewN ?_ _) | (with_reducible refine Kd.C_drew ?_))); (case side2 => exact HC0.out); rintro e w3 ⟨v323, rfl, ho0, hb⟩; refine ⟨_, rfl, ?_⟩; have n0_ := Aside0.mk (Kd.R_lower ho0 (below_size (by repeat (first | (with_reducible first | exact HB.out | apply below_alloc | apply pw_below_drewN | apply below_drew1) | exact HB.out)))); have n1_ := Aside0.mk (below_step (by repeat (first | (with_reducible first | exact HB.out | apply below_alloc | apply pw_below_drewN | apply below_drew1) | exact HB.out)) hb); clear HB; have HO324 := n0_; have HB := n1_; clear n0_ n1_; (try clear hb); (try clear hb2); (try clear hk); (try clear hi); (try clear ho0)))
  go_loopg [4, 5] k (fun kq v4 v5 w' => ∃ (x4_1 : List (S101)) (x5_1 : Int), v5 = .int .i64 x5_1 ∧ Aside0 (cachepotref1_BatchMake.l0 kq l0 t322 x4_1 x5_1 = some r) ∧ Aside0 (kq ≤ k) ∧ Aside0 (Kd.R Kd.string 9 w' w.heap.size (fun _ => True) v323 t322) ∧ Aside0 (Kd.R k101 101 w' w.heap.size (fun _ => True) v4 x4_1) ∧ Aside0 (Below w.heap.size w w'))
  case atStart => exact ⟨(([] : List (S101))), (0), (by first | rfl | (simp; done) | (simp [*]; done)), H', ⟨Nat.le_refl _⟩, ⟨by (with_reducible repeat (first | apply Kd.R_alloc | apply Kd.R_drewN | apply Kd.R_drew)); exact HO324.out⟩, ⟨by first | exact Kd.R_nil _ _ _ _ _ | exact Kd.N_nil _ _ _ _ _ | exact Kd.V_nil _ _ _ _ _ | exact Kd.Q_nil _ _ _ _ _ | exact Kd.S_nil _ _ _ _ _⟩, ⟨by repeat (first | (with_reducible first | exact HB.out | apply below_alloc | apply pw_below_drewN | apply below_drew1) | exact HB.out)⟩⟩
  case round =>
    clear H'
    try clear c1
    try clear p2
    obtain ⟨x4_1, x5_1, rfl, HA, HK1, HO_3, HO_4, HB⟩ := hrel
    cases gk with
    | zero => exact absurd HA.out (by simp [cachepotref1_BatchMake.l0])
    | succ k1 =>
      have H := HA.out
      clear HA
      simp only [cachepotref1_BatchMake.l0] at H
      by_cases c4 : x5_1 < (t322.length : Int)
      · rw [if_pos c4] at H
        have c4b0 : decide (x5_1 < (t322.length : Int)) = true := decide_eq_true c4
        clear c4
        by_cases c5 : 0 ≤ x5_1
        · rw [if_pos c5] at H
          have c5b0 : decide (0 ≤ x5_1) = true := decide_eq_true c5
          clear c5
          replace H := Option.bind_eq_some_iff.mp H
          obtain ⟨⟨t326, t327, t328, t329⟩, A60, H⟩ := H
          replace H : (if t327 = true then (if x4_1.length < 3518437208883 then (cachepotref1_BatchMake.l0 k1 l0 t322 (x4_1 ++ [(⟨t326, t327, (⟨#[]⟩ : ByteArray)⟩ : S101)]) (wrap64 (x5_1 + 1))) else (none)) else (if x4_1.length < 3518437208883 then (cachepotref1_BatchMake.l0 k1 l0 t322 (x4_1 ++ [(⟨t326, t327, t328⟩ : S101)]) (wrap64 (x5_1 + 1))) else (none))) = some r := H
          have A6 := Aside0.mk A60
          clear A60
          by_cases c7 : t327 = true
          · subst c7
            have H1 : (if x4_1.length < 3518437208883 then (cachepotref1_BatchMake.l0 k1 l0 t322 (x4_1 ++ [(⟨t326, true, (⟨#[]⟩ : ByteArray)⟩ : S101)]) (wrap64 (x5_1 + 1))) else (none)) = some r := by rw [if_pos rfl] at H; exact H
            clear H
            have H := H1
            clear H1
            by_cases c8 : x4_1.length < 3518437208883
            · rw [if_pos c8] at H
              have LMc8 := Aside0.mk c8
              clear c8
              obtain ⟨y331, hy331⟩ : ∃ y_ : List (S101), y_ = (x4_1 ++ [(⟨t326, true, (⟨#[]⟩ : ByteArray)⟩ : S101)]) := ⟨_, rfl⟩
              replace H : (cachepotref1_BatchMake.l0 k1 l0 t322 y331 (wrap64 (x5_1 + 1))) = some r := by first | (rw [hy331]; with_reducible exact H) | (have H2_ := (Option.bind_some _ _).symm.trans H; rw [hy331]; with_reducible exact H2_) | (have H2_ := (Option.bind_some _ _).symm.trans H; with_reducible exact H2_) | with_reducible exact H | (rw [hy331]; exact H) | exact H
              have Ny331 := Aside0.mk hy331
              clear hy331
              have H' := Aside0.mk H
              clear H
              obtain ⟨Ao9, co9, eo9⟩ := Kd.R_slice HO_3.out
              subst eo9
              have p325 : 0 ≤ (x5_1 : Int) := of_decide_eq_true (by first | (with_reducible assumption) | assumption)
              have q325 : x5_1 < (t322.length : Int) := of_decide_eq_true (by first | (with_reducible assumption) | assumption)
              obtain ⟨ad325, e325, hx325_0⟩ := Kd.at_string (Kd.R_reads' HO_3.out).2.2 x5_1 p325 q325
              cases e325
              replace p325 := eq_true p325
              replace q325 := eq_true q325
              go_wp2_with (first | ((with_reducible refine gate_callee (f := 107) rfl ?_); refine goesL_ (some 22) rfl rfl Tryd.func107 (by kernel_rfl) rfl #[.slice A0 l0.length c0, .string (rdOf ByteArray.empty t322 x5_1)] rfl (by (try simp only [List.map_toArray, List.map_cons, List.map_nil]); first | done | rfl | (simp only [List.length_drop, List.length_take]; rfl)) ?_; (with_reducible refine (cachepotref1_BatchFind.calls k1 _ _ l0 (rdOf ByteArray.empty t322 x5_1) t326 true t328 t329 _ ?side1 ?side2 A6.out).mono ?_); (case side1 => repeat (first | exact (Kd.C_below HR0.out HB.out) | (with_reducible refine Kd.C_alloc ?_ _) | (with_reducible refine Kd.C_drewN ?_ _) | (with_reducible refine Kd.C_drew ?_))); (case side2 => exact HC0.out); rintro e w10 ⟨rfl, hb⟩; refine ⟨_, rfl, ?_⟩; have n0_ := Aside0.mk (Kd.R_below (by (with_reducible repeat (first | apply Kd.R_alloc | apply Kd.R_drewN | apply Kd.R_drew)); exact HO_3.out) hb); have n1_ := Aside0.mk (Kd.R_below (by (with_reducible repeat (first | apply Kd.R_alloc | apply Kd.R_drewN | apply Kd.R_drew)); exact HO_4.out) hb); have n2_ := Aside0.mk (below_step (by repeat (first | (with_reducible first | exact HB.out | apply below_alloc | apply pw_below_drewN | apply below_drew1) | exact HB.out)) hb); clear HO_3; clear HO_4; clear HB; have HO_3 := n0_; have HO_4 := n1_; have HB := n2_; clear n0_ n1_ n2_; (try clear hb); (try clear hb2); (try clear hk); (try clear hi)) | ((with_reducible refine gate_dst (N := 6) rfl ?_); refine box_event ?hg (N := 6) ?hd (cs := #[.string (⟨#[]⟩ : ByteArray), .bool false, .string (⟨#[]⟩ : ByteArray)]) (t := 101) ?hr ?_; (case hd => rfl); (case hg => rfl); (case hr => first | (go_simp; done) | (go_simp; rfl)); intro gb330 hg w11 hbox hb; have n0_ := Aside0.mk (Kd.R_below (by (with_reducible repeat (first | apply Kd.R_alloc | apply Kd.R_drewN | apply Kd.R_drew)); exact HO_3.out) hb); have n1_ := Aside0.mk (Kd.R_below (Kd.R_elderB (by (with_reducible repeat (first | apply Kd.R_alloc | apply Kd.R_drewN | apply Kd.R_drew)); exact HO_4.out) gb330 (Nat.le_of_eq hg.symm)) hb); have n2_ := Aside0.mk (below_step (by repeat (first | (with_reducible first | exact HB.out | apply below_alloc | apply pw_below_drewN | apply below_drew1) | exact HB.out)) hb); have n3_ := Aside0.mk (hbox); have n4_ := Aside0.mk ((by rw [hg]; exact (below_size (by repeat (first | (with_reducible first | exact HB.out | apply below_alloc | apply pw_below_drewN | apply below_drew1) | exact HB.out))) : w.heap.size ≤ gb330)); have n5_ := Aside0.mk ((by rw [hg]; exact (below_size (by repeat (first | (with_reducible first | exact HB.out | apply below_alloc | apply pw_below_drewN | apply below_drew1) | exact HB.out))) : w.heap.size ≤ gb330)); clear HO_3; clear HO_4; clear HB; have HO_3 := n0_; have HO_4 := n1_; have HB := n2_; have BK330 := n3_; have GW330 := n4_; have GE330 := n5_; clear n0_ n1_ n2_ n3_ n4_ n5_; clear hb hbox hg; have hcz12_0 : w11.cell? ⟨gb330, 0, none⟩ = some (.string (⟨#[]⟩ : ByteArray)) := (blk_cell BK330.out 0).trans rfl; have hcz12_1 : w11.cell? ⟨gb330, 1, none⟩ = some (.bool false) := (blk_cell BK330.out 1).trans rfl; have hcz12_2 : w11.cell? ⟨gb330, 2, none⟩ = some (.string (⟨#[]⟩ : ByteArray)) := (blk_cell BK330.out 2).trans rfl; have hfz12_0 := blk_frozen BK330.out 0; have hfz12_1 := blk_frozen BK330.out 1; have hfz12_2 := blk_frozen BK330.out 2; have hdc12_2 : ((((w11.setCell ⟨gb330, 0, none⟩ (.string t326)).setCell ⟨gb330, 1, none⟩ (.bool true)).setCell ⟨gb330, 2, none⟩ (.string t328)).setCell ⟨gb330, 2, none⟩ (.string (⟨#[]⟩ : ByteArray))).cell? ⟨gb330, 2, none⟩ = some (.string (⟨#[]⟩ : ByteArray)) := by simp [World.cell?, World.setCell, Array.getElem?_modify, BK330.out]) | ((with_reducible refine gate_builtin (b := .append) (xs := #[.tmp 28, .tmp 30]) rfl ?_); at_builtin; refine Kd.R_append k101 (w0 := w) w.heap.size rfl (.tmp 28) (.tmp 30) 40 101 (.agg #[(.string ⟨#[]⟩), (.bool false), (.string ⟨#[]⟩)]) 40 rfl Tryd.underlying40 info101 rfl (by decide) (by omega) u4 x4_1 (⟨t326, true, (⟨#[]⟩ : ByteArray)⟩ : S101) [.string t326, .bool true, .string (⟨#[]⟩ : ByteArray)] (fun k_ => k_ ≠ gb330) (fun _ => False) rfl (by first | (go_simp; done) | (go_simp; rfl)) ?aP (fun _ hk => hk.elim) ?aF ?aO ?aB ?aS ?aL ?_; (case aP => exact k101_mkM _ _ _ (⟨t326, true, (⟨#[]⟩ : ByteArray)⟩ : S101)); (case aB => exact (by repeat (first | (with_reducible first | exact HB.out | apply below_alloc | apply pw_below_drewN | apply below_drew1 | refine below_set ?_ GE330.out) | exact HB.out))); (case aF => exact (fun k_ hk => Kd.freshB (g := gb330) (o := .cells #[.string t326, .bool true, .string (⟨#[]⟩ : ByteArray)] 101 (0, 0)) (by (with_reducible repeat (first | refine blk_drewN ?_ _ | refine blk_drew ?_ | refine blk_alloc ?_ _)); refine blk_put (cs := #[.string t326, .bool true, .string t328]) ?_ 2 _ rfl; (with_reducible repeat (first | refine blk_drewN ?_ _ | refine blk_drew ?_ | refine blk_alloc ?_ _)); refine blk_put (cs := #[.string t326, .bool true, .string (⟨#[]⟩ : ByteArray)]) ?_ 2 _ rfl; (with_reducible repeat (first | refine blk_drewN ?_ _ | refine blk_drew ?_ | refine blk_alloc ?_ _)); refine blk_put (cs := #[.string t326, .bool false, .string (⟨#[]⟩ : ByteArray)]) ?_ 1 _ rfl; (with_reducible repeat (first | refine blk_drewN ?_ _ | refine blk_drew ?_ | refine blk_alloc ?_ _)); refine blk_put (cs := #[.string (⟨#[]⟩ : ByteArray), .bool false, .string (⟨#[]⟩ : ByteArray)]) ?_ 0 _ rfl; (with_reducible repeat (first | refine blk_drewN ?_ _ | refine blk_drew ?_ | refine blk_alloc ?_ _)); exact BK330.out) k_ hk)); (case aO => exact (by (with_reducible repeat (first | apply Kd.R_alloc | apply Kd.R_drewN | apply Kd.R_drew)); exact Kd.R_mono (Kd.R_far (p := ⟨gb330, 2, none⟩) (Kd.R_far (p := ⟨gb330, 2, none⟩) (Kd.R_far (p := ⟨gb330, 1, none⟩) (Kd.R_far (p := ⟨gb330, 0, none⟩) (Kd.R_mono HO_4.out (fun k_ hk => (⟨hk, hk.2⟩ : _ ∧ k_ ≠ gb330))) (fun _ hk => hk.2) (.string t326)) (fun _ hk => hk.2) (.bool true)) (fun _ hk => hk.2) (.string t328)) (fun _ hk => hk.2) (.string (⟨#[]⟩ : ByteArray))) (fun _ hk => hk.1.2))); (case aS => exact (below_size (by repeat (first | (with_reducible first | exact HB.out | apply below_alloc | apply pw_below_drewN | apply below_drew1 | refine below_set ?_ GE330.out) | exact HB.out)))); (case aL => have := LMc8.out; omega); intro v332 w13 ho hb hg hat; rw [← Ny331.out] at ho; have n0_ := Aside0.mk (Kd.R_over' (by (with_reducible repeat (first | apply Kd.R_alloc | apply Kd.R_drewN | apply Kd.R_drew)); exact (Kd.R_mono (Kd.R_far (p := ⟨gb330, 2, none⟩) (Kd.R_far (p := ⟨gb330, 2, none⟩) (Kd.R_far (p := ⟨gb330, 1, none⟩) (Kd.R_far (p := ⟨gb330, 0, none⟩) (Kd.R_types HO_3.out BK330.out (by decide)) (fun _ hk => hk.2) (.string t326)) (fun _ hk => hk.2) (.bool true)) (fun _ hk => hk.2) (.string t328)) (fun _ hk => hk.2) (.string (⟨#[]⟩ : ByteArray))) (fun _ h_ => h_.1))) (Kd.R_typed (by (with_reducible repeat (first | apply Kd.R_alloc | apply Kd.R_drewN | apply Kd.R_drew)); exact (Kd.R_mono (Kd.R_far (p := ⟨gb330, 2, none⟩) (Kd.R_far (p := ⟨gb330, 2, none⟩) (Kd.R_far (p := ⟨gb330, 1, none⟩) (Kd.R_far (p := ⟨gb330, 0, none⟩) (Kd.R_mono HO_4.out (fun k_ hk => (⟨hk, hk.2⟩ : _ ∧ k_ ≠ gb330))) (fun _ hk => hk.2) (.string t326)) (fun _ hk => hk.2) (.bool true)) (fun _ hk => hk.2) (.string t328)) (fun _ hk => hk.2) (.string (⟨#[]⟩ : ByteArray))) (fun _ h_ => h_.1)))) (by decide) hg); have n1_ := Aside0.mk (blk_grown (g := gb330) (o := .cells #[.string t326, .bool true, .string (⟨#[]⟩ : ByteArray)] 101 (0, 0)) (by (with_reducible repeat (first | refine blk_drewN ?_ _ | refine blk_drew ?_ | refine blk_alloc ?_ _)); refine blk_put (cs := #[.string t326, .bool true, .string t328]) ?_ 2 _ rfl; (with_reducible repeat (first | refine blk_drewN ?_ _ | refine blk_drew ?_ | refine blk_alloc ?_ _)); refine blk_put (cs := #[.string t326, .bool true, .string (⟨#[]⟩ : ByteArray)]) ?_ 2 _ rfl; (with_reducible repeat (first | refine blk_drewN ?_ _ | refine blk_drew ?_ | refine blk_alloc ?_ _)); refine blk_put (cs := #[.string t326, .bool false, .string (⟨#[]⟩ : ByteArray)]) ?_ 1 _ rfl; (with_reducible repeat (first | refine blk_drewN ?_ _ | refine blk_drew ?_ | refine blk_alloc ?_ _)); refine blk_put (cs := #[.string (⟨#[]⟩ : ByteArray), .bool false, .string (⟨#[]⟩ : ByteArray)]) ?_ 0 _ rfl; (with_reducible repeat (first | refine blk_drewN ?_ _ | refine blk_drew ?_ | refine blk_alloc ?_ _)); exact BK330.out) hg (Kd.R_away HO_4.out (fun _ hk => hk.2))); have n2_ := Aside0.mk (hb); have n3_ := Aside0.mk (ho); clear HO_3; clear BK330; clear HB; clear HO_4; have HO_3 := n0_; have BK330 := n1_; have HB := n2_; have HO333 := n3_; clear n0_ n1_ n2_ n3_; clear ho hb hg hat))
              go_roundg k1
              case measure => have := HK1.out; omega
              case rel => exact ⟨(y331), (wrap64 (x5_1 + 1)), (by first | rfl | (simp; done) | (simp [*]; done)), H', ⟨by have := HK1.out; omega⟩, ⟨by (with_reducible repeat (first | apply Kd.R_alloc | apply Kd.R_drewN | apply Kd.R_drew)); exact HO_3.out⟩, ⟨by (with_reducible repeat (first | apply Kd.R_alloc | apply Kd.R_drewN | apply Kd.R_drew)); exact Kd.R_mono HO333.out (fun _ hk => trivial)⟩, ⟨by repeat (first | (with_reducible first | exact HB.out | apply below_alloc | apply pw_below_drewN | apply below_drew1 | refine below_set ?_ GE330.out) | exact HB.out)⟩⟩
            · rw [if_neg c8] at H
              exact absurd H (by simp)
          · replace c7 := Bool.eq_false_iff.mpr c7
            subst c7
            have H1 : (if x4_1.length < 3518437208883 then (cachepotref1_BatchMake.l0 k1 l0 t322 (x4_1 ++ [(⟨t326, false, t328⟩ : S101)]) (wrap64 (x5_1 + 1))) else (none)) = some r := by rw [if_neg (show ¬ (false = true) by decide)] at H; exact H
            clear H
            have H := H1
            clear H1
            by_cases c14 : x4_1.length < 3518437208883
            · rw [if_pos c14] at H
              have LMc14 := Aside0.mk c14
              clear c14
              obtain ⟨y334, hy334⟩ : ∃ y_ : List (S101), y_ = (x4_1 ++ [(⟨t326, false, t328⟩ : S101)]) := ⟨_, rfl⟩
              replace H : (cachepotref1_BatchMake.l0 k1 l0 t322 y334 (wrap64 (x5_1 + 1))) = some r := by first | (rw [hy334]; with_reducible exact H) | (have H2_ := (Option.bind_some _ _).symm.trans H; rw [hy334]; with_reducible exact H2_) | (have H2_ := (Option.bind_some _ _).symm.trans H; with_reducible exact H2_) | with_reducible exact H | (rw [hy334]; exact H) | exact H
              have Ny334 := Aside0.mk hy334
              clear hy334
              have H' := Aside0.mk H
              clear H
              obtain ⟨Ao15, co15, eo15⟩ := Kd.R_slice HO_3.out
              subst eo15
              have p325 : 0 ≤ (x5_1 : Int) := of_decide_eq_true (by first | (with_reducible assumption) | assumption)
              have q325 : x5_1 < (t322.length : Int) := of_decide_eq_true (by first | (with_reducible assumption) | assumption)
              obtain ⟨ad325, e325, hx325_0⟩ := Kd.at_string (Kd.R_reads' HO_3.out).2.2 x5_1 p325 q325
              cases e325
              replace p325 := eq_true p325
              replace q325 := eq_true q325
              go_wp2_with (first | ((with_reducible refine gate_callee (f := 107) rfl ?_); refine goesL_ (some 22) rfl rfl Tryd.func107 (by kernel_rfl) rfl #[.slice A0 l0.length c0, .string (rdOf ByteArray.empty t322 x5_1)] rfl (by (try simp only [List.map_toArray, List.map_cons, List.map_nil]); first | done | rfl | (simp only [List.length_drop, List.length_take]; rfl)) ?_; (with_reducible refine (cachepotref1_BatchFind.calls k1 _ _ l0 (rdOf ByteArray.empty t322 x5_1) t326 false t328 t329 _ ?side1 ?side2 A6.out).mono ?_); (case side1 => repeat (first | exact (Kd.C_below HR0.out HB.out) | (with_reducible refine Kd.C_alloc ?_ _) | (with_reducible refine Kd.C_drewN ?_ _) | (with_reducible refine Kd.C_drew ?_))); (case side2 => exact HC0.out); rintro e w16 ⟨rfl, hb⟩; refine ⟨_, rfl, ?_⟩; have n0_ := Aside0.mk (Kd.R_below (by (with_reducible repeat (first | apply Kd.R_alloc | apply Kd.R_drewN | apply Kd.R_drew)); exact HO_3.out) hb); have n1_ := Aside0.mk (Kd.R_below (by (with_reducible repeat (first | apply Kd.R_alloc | apply Kd.R_drewN | apply Kd.R_drew)); exact HO_4.out) hb); have n2_ := Aside0.mk (below_step (by repeat (first | (with_reducible first | exact HB.out | apply below_alloc | apply pw_below_drewN | apply below_drew1) | exact HB.out)) hb); clear HO_3; clear HO_4; clear HB; have HO_3 := n0_; have HO_4 := n1_; have HB := n2_; clear n0_ n1_ n2_; (try clear hb); (try clear hb2); (try clear hk); (try clear hi)) | ((with_reducible refine gate_dst (N := 6) rfl ?_); refine box_event ?hg (N := 6) ?hd (cs := #[.string (⟨#[]⟩ : ByteArray), .bool false, .string (⟨#[]⟩ : ByteArray)]) (t := 101) ?hr ?_; (case hd => rfl); (case hg => rfl); (case hr => first | (go_simp; done) | (go_simp; rfl)); intro gb330 hg w17 hbox hb; have n0_ := Aside0.mk (Kd.R_below (by (with_reducible repeat (first | apply Kd.R_alloc | apply Kd.R_drewN | apply Kd.R_drew)); exact HO_3.out) hb); have n1_ := Aside0.mk (Kd.R_below (Kd.R_elderB (by (with_reducible repeat (first | apply Kd.R_alloc | apply Kd.R_drewN | apply Kd.R_drew)); exact HO_4.out) gb330 (Nat.le_of_eq hg.symm)) hb); have n2_ := Aside0.mk (below_step (by repeat (first | (with_reducible first | exact HB.out | apply below_alloc | apply pw_below_drewN | apply below_drew1) | exact HB.out)) hb); have n3_ := Aside0.mk (hbox); have n4_ := Aside0.mk ((by rw [hg]; exact (below_size (by repeat (first | (with_reducible first | exact HB.out | apply below_alloc | apply pw_below_drewN | apply below_drew1) | exact HB.out))) : w.heap.size ≤ gb330)); have n5_ := Aside0.mk ((by rw [hg]; exact (below_size (by repeat (first | (with_reducible first | exact HB.out | apply below_alloc | apply pw_below_drewN | apply below_drew1) | exact HB.out))) : w.heap.size ≤ gb330)); clear HO_3; clear HO_4; clear HB; have HO_3 := n0_; have HO_4 := n1_; have HB := n2_; have BK330 := n3_; have GW330 := n4_; have GE330 := n5_; clear n0_ n1_ n2_ n3_ n4_ n5_; clear hb hbox hg; have hcz18_0 : w17.cell? ⟨gb330, 0, none⟩ = some (.string (⟨#[]⟩ : ByteArray)) := (blk_cell BK330.out 0).trans rfl; have hcz18_1 : w17.cell? ⟨gb330, 1, none⟩ = some (.bool false) := (blk_cell BK330.out 1).trans rfl; have hcz18_2 : w17.cell? ⟨gb330, 2, none⟩ = some (.string (⟨#[]⟩ : ByteArray)) := (blk_cell BK330.out 2).trans rfl; have hfz18_0 := blk_frozen BK330.out 0; have hfz18_1 := blk_frozen BK330.out 1; have hfz18_2 := blk_frozen BK330.out 2) | ((with_reducible refine gate_builtin (b := .append) (xs := #[.tmp 28, .tmp 30]) rfl ?_); at_builtin; refine Kd.R_append k101 (w0 := w) w.heap.size rfl (.tmp 28) (.tmp 30) 40 101 (.agg #[(.string ⟨#[]⟩), (.bool false), (.string ⟨#[]⟩)]) 40 rfl Tryd.underlying40 info101 rfl (by decide) (by omega) u4 x4_1 (⟨t326, false, t328⟩ : S101) [.string t326, .bool false, .string t328] (fun k_ => k_ ≠ gb330) (fun _ => False) rfl (by first | (go_simp; done) | (go_simp; rfl)) ?aP (fun _ hk => hk.elim) ?aF ?aO ?aB ?aS ?aL ?_; (case aP => exact k101_mkM _ _ _ (⟨t326, false, t328⟩ : S101)); (case aB => exact (by repeat (first | (with_reducible first | exact HB.out | apply below_alloc | apply pw_below_drewN | apply below_drew1 | refine below_set ?_ GE330.out) | exact HB.out))); (case aF => exact (fun k_ hk => Kd.freshB (g := gb330) (o := .cells #[.string t326, .bool false, .string t328] 101 (0, 0)) (by (with_reducible repeat (first | refine blk_drewN ?_ _ | refine blk_drew ?_ | refine blk_alloc ?_ _)); refine blk_put (cs := #[.string t326, .bool false, .string (⟨#[]⟩ : ByteArray)]) ?_ 2 _ rfl; (with_reducible repeat (first | refine blk_drewN ?_ _ | refine blk_drew ?_ | refine blk_alloc ?_ _)); refine blk_put (cs := #[.string t326, .bool false, .string (⟨#[]⟩ : ByteArray)]) ?_ 1 _ rfl; (with_reducible repeat (first | refine blk_drewN ?_ _ | refine blk_drew ?_ | refine blk_alloc ?_ _)); refine blk_put (cs := #[.string (⟨#[]⟩ : ByteArray), .bool false, .string (⟨#[]⟩ : ByteArray)]) ?_ 0 _ rfl; (with_reducible repeat (first | refine blk_drewN ?_ _ | refine blk_drew ?_ | refine blk_alloc ?_ _)); exact BK330.out) k_ hk)); (case aO => exact (by (with_reducible repeat (first | apply Kd.R_alloc | apply Kd.R_drewN | apply Kd.R_drew)); exact Kd.R_mono (Kd.R_far (p := ⟨gb330, 2, none⟩) (Kd.R_far (p := ⟨gb330, 1, none⟩) (Kd.R_far (p := ⟨gb330, 0, none⟩) (Kd.R_mono HO_4.out (fun k_ hk => (⟨hk, hk.2⟩ : _ ∧ k_ ≠ gb330))) (fun _ hk => hk.2) (.string t326)) (fun _ hk => hk.2) (.bool false)) (fun _ hk => hk.2) (.string t328)) (fun _ hk => hk.1.2))); (case aS => exact (below_size (by repeat (first | (with_reducible first | exact HB.out | apply below_alloc | apply pw_below_drewN | apply below_drew1 | refine below_set ?_ GE330.out) | exact HB.out)))); (case aL => have := LMc14.out; omega); intro v335 w19 ho hb hg hat; rw [← Ny334.out] at ho; have n0_ := Aside0.mk (Kd.R_over' (by (with_reducible repeat (first | apply Kd.R_alloc | apply Kd.R_drewN | apply Kd.R_drew)); exact (Kd.R_mono (Kd.R_far (p := ⟨gb330, 2, none⟩) (Kd.R_far (p := ⟨gb330, 1, none⟩) (Kd.R_far (p := ⟨gb330, 0, none⟩) (Kd.R_types HO_3.out BK330.out (by decide)) (fun _ hk => hk.2) (.string t326)) (fun _ hk => hk.2) (.bool false)) (fun _ hk => hk.2) (.string t328)) (fun _ h_ => h_.1))) (Kd.R_typed (by (with_reducible repeat (first | apply Kd.R_alloc | apply Kd.R_drewN | apply Kd.R_drew)); exact (Kd.R_mono (Kd.R_far (p := ⟨gb330, 2, none⟩) (Kd.R_far (p := ⟨gb330, 1, none⟩) (Kd.R_far (p := ⟨gb330, 0, none⟩) (Kd.R_mono HO_4.out (fun k_ hk => (⟨hk, hk.2⟩ : _ ∧ k_ ≠ gb330))) (fun _ hk => hk.2) (.string t326)) (fun _ hk => hk.2) (.bool false)) (fun _ hk => hk.2) (.string t328)) (fun _ h_ => h_.1)))) (by decide) hg); have n1_ := Aside0.mk (blk_grown (g := gb330) (o := .cells #[.string t326, .bool false, .string t328] 101 (0, 0)) (by (with_reducible repeat (first | refine blk_drewN ?_ _ | refine blk_drew ?_ | refine blk_alloc ?_ _)); refine blk_put (cs := #[.string t326, .bool false, .string (⟨#[]⟩ : ByteArray)]) ?_ 2 _ rfl; (with_reducible repeat (first | refine blk_drewN ?_ _ | refine blk_drew ?_ | refine blk_alloc ?_ _)); refine blk_put (cs := #[.string t326, .bool false, .string (⟨#[]⟩ : ByteArray)]) ?_ 1 _ rfl; (with_reducible repeat (first | refine blk_drewN ?_ _ | refine blk_drew ?_ | refine blk_alloc ?_ _)); refine blk_put (cs := #[.string (⟨#[]⟩ : ByteArray), .bool false, .string (⟨#[]⟩ : ByteArray)]) ?_ 0 _ rfl; (with_reducible repeat (first | refine blk_drewN ?_ _ | refine blk_drew ?_ | refine blk_alloc ?_ _)); exact BK330.out) hg (Kd.R_away HO_4.out (fun _ hk => hk.2))); have n2_ := Aside0.mk (hb); have n3_ := Aside0.mk (ho); clear HO_3; clear BK330; clear HB; clear HO_4; have HO_3 := n0_; have BK330 := n1_; have HB := n2_; have HO336 := n3_; clear n0_ n1_ n2_ n3_; clear ho hb hg hat))
              go_roundg k1
              case measure => have := HK1.out; omega
              case rel => exact ⟨(y334), (wrap64 (x5_1 + 1)), (by first | rfl | (simp; done) | (simp [*]; done)), H', ⟨by have := HK1.out; omega⟩, ⟨by (with_reducible repeat (first | apply Kd.R_alloc | apply Kd.R_drewN | apply Kd.R_drew)); exact HO_3.out⟩, ⟨by (with_reducible repeat (first | apply Kd.R_alloc | apply Kd.R_drewN | apply Kd.R_drew)); exact Kd.R_mono HO336.out (fun _ hk => trivial)⟩, ⟨by repeat (first | (with_reducible first | exact HB.out | apply below_alloc | apply pw_below_drewN | apply below_drew1 | refine below_set ?_ GE330.out) | exact HB.out)⟩⟩
            · rw [if_neg c14] at H
              exact absurd H (by simp)
        · rw [if_neg c5] at H
          exact absurd H (by simp)
      · rw [if_neg c4] at H
        have c4b0 : decide (x5_1 < (t322.length : Int)) = false := decide_eq_false c4
        clear c4
        obtain rfl := Option.some.inj H
        obtain ⟨Ao20, co20, eo20⟩ := Kd.R_slice HO_3.out
        subst eo20
        go_wp2
        go_ret
        exact ⟨_, by first | rfl | (simp [errW_none, errW_some] <;> rfl) | (simp [*, errW_none, errW_some] <;> rfl), by (with_reducible repeat (first | apply Kd.R_alloc | apply Kd.R_drewN | apply Kd.R_drew)); exact HO_4.out, by repeat (first | (with_reducible first | exact HB.out | apply below_alloc | apply pw_below_drewN | apply below_drew1) | exact HB.out)⟩
end Go.Proofs.YtfaelejeihmgcaaDoor.Lgx
end

section
namespace Go.Proofs.YtfaelejeihmgcaaDoor.Lgx
open Go.RowKit Go.Proofs.YtfaelejeihmgcaaDoorW.PrintWords Go.Proofs.YtfaelejeihmgcaaDoorW.PrintLast Go.Proofs.YtfaelejeihmgcaaDoorW.PrintMore
attribute [local go_sem] max2_int min2_int max_two min_two max_three min_three max_four min_four   -- for this text's walks alone
set_option linter.unusedVariables false
set_option linter.unusedSimpArgs false
mutual
def cachepothand_Writes.l0 : Nat → List (S139) → Int → List (S101) → Int → Option ((List (S101)))
  | 0, _, _, _, _ => none
  | k + 1, x0, x1, x5, x6 => if x6 < (x0.length : Int) then (cachepothand_Writes.j1 k x0 x1 x5 x6 (decide (x6 < x1))) else (cachepothand_Writes.j1 k x0 x1 x5 x6 false)
def cachepothand_Writes.j1 : Nat → List (S139) → Int → List (S101) → Int → Bool → Option ((List (S101)))
  | 0, _, _, _, _, _ => none
  | k + 1, x0, x1, x5, x6, x16 => if x16 = true then (if 0 ≤ x6 then (if x6 < (x0.length : Int) then ((cachepothand_Key.f ((rd_T139 x0 x6).f0)).bind fun t347 => (if ((rd_T139 x0 x6).f1 = true) then (if x5.length < 3518437208883 then (cachepothand_Writes.l0 k x0 x1 (x5 ++ [(⟨t347, (rd_T139 x0 x6).f1, (⟨#[]⟩ : ByteArray)⟩ : S101)]) (wrap64 (x6 + 1))) else (none)) else ((cachepothand_Val.f k ((rd_T139 x0 x6).f2) (wrap64 (Int.tdiv ((rd_T139 x0 x6).f0) 12))).bind fun t355 => (if x5.length < 3518437208883 then (cachepothand_Writes.l0 k x0 x1 (x5 ++ [(⟨t347, (rd_T139 x0 x6).f1, t355⟩ : S101)]) (wrap64 (x6 + 1))) else (none))))) else (none)) else (none)) else (if (x5.length : Int) = 0 then ((cachepotref1_BatchMake.f k (([(⟨(⟨#[97]⟩ : ByteArray), false, (⟨#[49]⟩ : ByteArray)⟩ : S101)] : List (S101)))).bind fun t340 => (some t340)) else ((cachepotref1_BatchMake.f k x5).bind fun t343 => (some t343)))
end
def cachepothand_Writes.f (k : Nat) (l0 : List (S139)) (a1 : Int) : Option ((List (S101))) := cachepothand_Writes.l0 k l0 a1 ([] : List (S101)) 0
def cachepothand_Writes.T5 : Bool × List (List Nat × List Nat) := (true, [([], []), ([], []), ([0, 1], [0, 1]), ([2], [2]), ([3], [3]), ([4], [4]), ([], []), ([], []), ([6, 7], [6, 7]), ([8], [8]), ([9], [9]), ([5, 10], [5, 10]), ([], []), ([12, 11, 5, 0, 1, 2, 3, 4, 5, 6, 7, 8, 9, 10, 11, 12], [11, 12])])
def cachepothand_Writes.B5 : List Nat := [0, 0, 3, 7, 15, 31, 0, 0, 192, 448, 960, 2047, 0, 8191]
theorem cachepothand_Writes.tab5 : rtab .any (opsOf Tryd.f69 5) = cachepothand_Writes.T5 := by kernel_rfl
theorem cachepothand_Writes.bits5 : waitsOk cachepothand_Writes.T5.2 cachepothand_Writes.B5 = true := by kernel_rfl
def cachepothand_Writes.T7 : Bool × List (List Nat × List Nat) := (true, [([], []), ([], []), ([0, 1], [0, 1]), ([2], [2]), ([3], [3]), ([], []), ([], []), ([5, 6], [5, 6]), ([7], [7]), ([8], [8]), ([9], [9]), ([4, 10], [4, 10]), ([0, 1, 2, 3, 4, 5, 6, 7, 8, 9, 10, 11], []), ([12, 11, 11, 0, 1, 2, 3, 4, 5, 6, 7, 8, 9, 10, 11], [11, 12])])
def cachepothand_Writes.B7 : List Nat := [0, 0, 3, 7, 15, 0, 0, 96, 224, 480, 992, 2047, 4095, 8191]
theorem cachepothand_Writes.tab7 : rtab .any (opsOf Tryd.f69 7) = cachepothand_Writes.T7 := by kernel_rfl
theorem cachepothand_Writes.bits7 : waitsOk cachepothand_Writes.T7.2 cachepothand_Writes.B7 = true := by kernel_rfl
set_option maxHeartbeats 8000000 in
set_option maxRecDepth 100000 in
theorem cachepothand_Writes.calls (k : Nat) (A0 : Option Addr) (c0 : Nat) (l0 : List (S139)) (a1 : Int) (r : List (S101)) (w : World) (hr0 : Kd.C k139 w A0 l0.length l0) (hc0 : l0.length ≤ c0) (h : cachepothand_Writes.f k l0 a1 = some r) (hT : Tabs w) :
    Calls Tryd.prog 69 #[.slice A0 l0.length c0, .int .i64 a1] w fun e w' => ∃ v0_ : Value, e = .returned (v0_) ∧ Kd.R k101 101 w' w.heap.size (fun _ => True) v0_ r ∧ Below w.heap.size w w' := by
  have hu101 := Tryd.underlying101
  have HR0 := Aside0.mk hr0
  have HC0 := Aside0.mk hc0
  clear hr0 hc0
  have HB := Aside0.mk (Below.refl w.heap.size w)
  have H : (cachepothand_Writes.l0 k l0 a1 ([] : List (S101)) 0) = some r := h
  clear h
  have H' := Aside0.mk H
  clear H
  go_enter Tryd.func69, Tryd.ntmps69
  go_wp2
  go_loopg [5, 6] k (fun kq v5 v6 w' => ∃ (x5_1 : List (S101)) (x6_1 : Int), v6 = .int .i64 x6_1 ∧ Aside0 (cachepothand_Writes.l0 kq l0 a1 x5_1 x6_1 = some r) ∧ Aside0 (kq ≤ k) ∧ Aside0 (Kd.R k101 101 w' w.heap.size (fun _ => True) v5 x5_1) ∧ Aside0 (Below w.heap.size w w'))
  case atStart => exact ⟨(([] : List (S101))), (0), (by first | rfl | (simp; done) | (simp [*]; done)), H', ⟨Nat.le_refl _⟩, ⟨by first | exact Kd.R_nil _ _ _ _ _ | exact Kd.N_nil _ _ _ _ _ | exact Kd.V_nil _ _ _ _ _ | exact Kd.Q_nil _ _ _ _ _ | exact Kd.S_nil _ _ _ _ _⟩, ⟨by repeat (first | (with_reducible first | exact HB.out | apply below_alloc | apply pw_below_drewN | apply below_drew1) | exact HB.out)⟩⟩
  case round =>
    clear H'
    try clear p2
    obtain ⟨x5_1, x6_1, rfl, HA, HK1, HO_5, HB⟩ := hrel
    cases gk with
    | zero => exact absurd HA.out (by simp [cachepothand_Writes.l0])
    | succ k1 =>
      have H := HA.out
      clear HA
      simp only [cachepothand_Writes.l0] at H
      have HC3 := Aside0.mk H
      clear H
      go_upto_region 3 with (fail)
      go_cut [16] (fun v16 wc => ∃ (kq : Nat) (x16_2 : Bool), v16 = .bool x16_2 ∧ Aside0 (cachepothand_Writes.j1 kq l0 a1 x5_1 x6_1 x16_2 = some r) ∧ Aside0 (kq ≤ k1) ∧ Aside0 (Kd.R k101 101 wc w.heap.size (fun _ => True) u5 x5_1) ∧ Aside0 (Below w.heap.size w wc))
      case first =>
        have H := HC3.out
        clear HC3
        by_cases c4 : x6_1 < (l0.length : Int)
        · rw [if_pos c4] at H
          have c4b0 : decide (x6_1 < (l0.length : Int)) = true := decide_eq_true c4
          clear c4
          (first | rw [c4b0] | (simp only [i64_w, i32_w]; rw [c4b0]) | skip)
          have H' := Aside0.mk H
          clear H
          go_wp2
          go_meet
          case rel => exact ⟨_, (decide (x6_1 < a1)), (by first | rfl | (simp; done) | (simp [*]; done)), H', ⟨by have := HK1.out; first | omega | exact Nat.le_refl _⟩, ⟨by (with_reducible repeat (first | apply Kd.R_alloc | apply Kd.R_drewN | apply Kd.R_drew)); exact HO_5.out⟩, ⟨by repeat (first | (with_reducible first | exact HB.out | apply below_alloc | apply pw_below_drewN | apply below_drew1) | exact HB.out)⟩⟩
        · rw [if_neg c4] at H
          have c4b0 : decide (x6_1 < (l0.length : Int)) = false := decide_eq_false c4
          clear c4
          (first | rw [c4b0] | (simp only [i64_w, i32_w]; rw [c4b0]) | skip)
          have H' := Aside0.mk H
          clear H
          go_wp2
          go_meet
          case rel => exact ⟨_, (false), (by first | rfl | (simp; done) | (simp [*]; done)), H', ⟨by have := HK1.out; first | omega | exact Nat.le_refl _⟩, ⟨by (with_reducible repeat (first | apply Kd.R_alloc | apply Kd.R_drewN | apply Kd.R_drew)); exact HO_5.out⟩, ⟨by repeat (first | (with_reducible first | exact HB.out | apply below_alloc | apply pw_below_drewN | apply below_drew1) | exact HB.out)⟩⟩
      case rest =>
        clear HC3
        try clear p2
        try clear c4
        try clear c4b0
        try clear p2
        obtain ⟨kq, x16_2, rfl, HA, HJ2, HO_5, HB⟩ := hcut
        cases kq with
        | zero => exact absurd HA.out (by simp [cachepothand_Writes.j1])
        | succ kj2 =>
          have H := HA.out
          clear HA
          simp only [cachepothand_Writes.j1] at H
          by_cases c5 : x16_2 = true
          · subst c5
            have H1 : (if 0 ≤ x6_1 then (if x6_1 < (l0.length : Int) then ((cachepothand_Key.f ((rd_T139 l0 x6_1).f0)).bind fun t347 => (if ((rd_T139 l0 x6_1).f1 = true) then (if x5_1.length < 3518437208883 then (cachepothand_Writes.l0 kj2 l0 a1 (x5_1 ++ [(⟨t347, (rd_T139 l0 x6_1).f1, (⟨#[]⟩ : ByteArray)⟩ : S101)]) (wrap64 (x6_1 + 1))) else (none)) else ((cachepothand_Val.f kj2 ((rd_T139 l0 x6_1).f2) (wrap64 (Int.tdiv ((rd_T139 l0 x6_1).f0) 12))).bind fun t355 => (if x5_1.length < 3518437208883 then (cachepothand_Writes.l0 kj2 l0 a1 (x5_1 ++ [(⟨t347, (rd_T139 l0 x6_1).f1, t355⟩ : S101)]) (wrap64 (x6_1 + 1))) else (none))))) else (none)) else (none)) = some r := by rw [if_pos rfl] at H; exact H
            clear H
            have H := H1
            clear H1
            by_cases c6 : 0 ≤ x6_1
            · rw [if_pos c6] at H
              have c6b0 : decide (0 ≤ x6_1) = true := decide_eq_true c6
              clear c6
              by_cases c7 : x6_1 < (l0.length : Int)
              · rw [if_pos c7] at H
                have c7b0 : decide (x6_1 < (l0.length : Int)) = true := decide_eq_true c7
                clear c7
                replace H := Option.bind_eq_some_iff.mp H
                obtain ⟨t347, A80, H⟩ := H
                replace H : (if ((rd_T139 l0 x6_1).f1 = true) then (if x5_1.length < 3518437208883 then (cachepothand_Writes.l0 kj2 l0 a1 (x5_1 ++ [(⟨t347, (rd_T139 l0 x6_1).f1, (⟨#[]⟩ : ByteArray)⟩ : S101)]) (wrap64 (x6_1 + 1))) else (none)) else ((cachepothand_Val.f kj2 ((rd_T139 l0 x6_1).f2) (wrap64 (Int.tdiv ((rd_T139 l0 x6_1).f0) 12))).bind fun t355 => (if x5_1.length < 3518437208883 then (cachepothand_Writes.l0 kj2 l0 a1 (x5_1 ++ [(⟨t347, (rd_T139 l0 x6_1).f1, t355⟩ : S101)]) (wrap64 (x6_1 + 1))) else (none)))) = some r := H
                have A8 := Aside0.mk A80
                clear A80
                obtain ⟨bq9, hbq9⟩ : ∃ b_ : Bool, b_ = ((rd_T139 l0 x6_1).f1) := ⟨_, rfl⟩
                replace H : (if (bq9 = true) then (if x5_1.length < 3518437208883 then (cachepothand_Writes.l0 kj2 l0 a1 (x5_1 ++ [(⟨t347, bq9, (⟨#[]⟩ : ByteArray)⟩ : S101)]) (wrap64 (x6_1 + 1))) else (none)) else ((cachepothand_Val.f kj2 ((rd_T139 l0 x6_1).f2) (wrap64 (Int.tdiv ((rd_T139 l0 x6_1).f0) 12))).bind fun t355 => (if x5_1.length < 3518437208883 then (cachepothand_Writes.l0 kj2 l0 a1 (x5_1 ++ [(⟨t347, bq9, t355⟩ : S101)]) (wrap64 (x6_1 + 1))) else (none)))) = some r := by rw [← hbq9] at H; exact H
                have Nbq9 := Aside0.mk hbq9
                clear hbq9
                by_cases c10 : (bq9 = true)
                · subst c10
                  have H1 : (if x5_1.length < 3518437208883 then (cachepothand_Writes.l0 kj2 l0 a1 (x5_1 ++ [(⟨t347, true, (⟨#[]⟩ : ByteArray)⟩ : S101)]) (wrap64 (x6_1 + 1))) else (none)) = some r := by rw [if_pos rfl] at H; exact H
                  clear H
                  have H := H1
                  clear H1
                  by_cases c11 : x5_1.length < 3518437208883
                  · rw [if_pos c11] at H
                    have LMc11 := Aside0.mk c11
                    clear c11
                    obtain ⟨y350, hy350⟩ : ∃ y_ : List (S101), y_ = (x5_1 ++ [(⟨t347, true, (⟨#[]⟩ : ByteArray)⟩ : S101)]) := ⟨_, rfl⟩
                    replace H : (cachepothand_Writes.l0 kj2 l0 a1 y350 (wrap64 (x6_1 + 1))) = some r := by first | (rw [hy350]; with_reducible exact H) | (have H2_ := (Option.bind_some _ _).symm.trans H; rw [hy350]; with_reducible exact H2_) | (have H2_ := (Option.bind_some _ _).symm.trans H; with_reducible exact H2_) | with_reducible exact H | (rw [hy350]; exact H) | exact H
                    have Ny350 := Aside0.mk hy350
                    clear hy350
                    have H' := Aside0.mk H
                    clear H
                    try go_wp2
                    have n0_ := Aside0.mk (Kd.R_drew HO_5.out)
                    have n1_ := Aside0.mk (below_drew1 HB.out)
                    clear HO_5
                    clear HB
                    have HO_5 := n0_
                    have HB := n1_
                    clear n0_ n1_
                    have p346 : 0 ≤ (x6_1 : Int) := of_decide_eq_true (by first | (with_reducible assumption) | assumption)
                    have q346 : x6_1 < (l0.length : Int) := of_decide_eq_true (by first | (with_reducible assumption) | assumption)
                    obtain ⟨ad346, e346, hx346_0, hx346_1, hx346_2⟩ := at_T139 HR0.out x6_1 p346 q346
                    have hw346_2 := hx346_2
                    have hw346_1 := hx346_1
                    have hw346_0 := hx346_0
                    (try rw [← Nbq9.out] at hx346_1)
                    (try rw [← Nbq9.out] at hw346_1)
                    cases e346
                    replace hx346_0 := (HB.out.cell (World.block_lt_of_cell? w _ hx346_0)).trans hx346_0
                    replace hx346_1 := (HB.out.cell (World.block_lt_of_cell? w _ hx346_1)).trans hx346_1
                    replace hx346_2 := (HB.out.cell (World.block_lt_of_cell? w _ hx346_2)).trans hx346_2
                    replace p346 := eq_true p346
                    replace q346 := eq_true q346
                    have p348 : 0 ≤ (x6_1 : Int) := of_decide_eq_true (by first | (with_reducible assumption) | assumption)
                    have q348 : x6_1 < (l0.length : Int) := of_decide_eq_true (by first | (with_reducible assumption) | assumption)
                    obtain ⟨ad348, e348, hx348_0, hx348_1, hx348_2⟩ := at_T139 HR0.out x6_1 p348 q348
                    have hw348_2 := hx348_2
                    have hw348_1 := hx348_1
                    have hw348_0 := hx348_0
                    (try rw [← Nbq9.out] at hx348_1)
                    (try rw [← Nbq9.out] at hw348_1)
                    obtain rfl : ad346 = ad348 := (by injection e348)
                    replace hx348_0 := (HB.out.cell (World.block_lt_of_cell? w _ hx348_0)).trans hx348_0
                    replace hx348_1 := (HB.out.cell (World.block_lt_of_cell? w _ hx348_1)).trans hx348_1
                    replace hx348_2 := (HB.out.cell (World.block_lt_of_cell? w _ hx348_2)).trans hx348_2
                    replace p348 := eq_true p348
                    replace q348 := eq_true q348
                    refine start_ (n := 14) (S := fun w' => w'.cell? (ad346.add ((x6_1).toNat * 3)) = some (.int .i64 ((rd_T139 l0 x6_1).f0)) ∧ w'.cell? ⟨(ad346.add ((x6_1).toNat * 3)).block, (ad346.add ((x6_1).toNat * 3)).off + 1, none⟩ = some (.bool true) ∧ w'.cell? ⟨(ad346.add ((x6_1).toNat * 3)).block, (ad346.add ((x6_1).toNat * 3)).off + 2, none⟩ = some (.string ((rd_T139 l0 x6_1).f2)) ∧ w'.cell? (ad346.add ((x6_1).toNat * 3)) = some (.int .i64 ((rd_T139 l0 x6_1).f0)) ∧ w'.cell? ⟨(ad346.add ((x6_1).toNat * 3)).block, (ad346.add ((x6_1).toNat * 3)).off + 1, none⟩ = some (.bool true) ∧ w'.cell? ⟨(ad346.add ((x6_1).toNat * 3)).block, (ad346.add ((x6_1).toNat * 3)).off + 2, none⟩ = some (.string ((rd_T139 l0 x6_1).f2))) (ds := []) #[false, false, false, false, false, false, false, false, false, false, false, false, false, false] (by kernel_rfl) rfl rfl ⟨((HB.out.cell (World.block_lt_of_cell? w _ hw346_0)).trans hw346_0), ((HB.out.cell (World.block_lt_of_cell? w _ hw346_1)).trans hw346_1), ((HB.out.cell (World.block_lt_of_cell? w _ hw346_2)).trans hw346_2), ((HB.out.cell (World.block_lt_of_cell? w _ hw348_0)).trans hw348_0), ((HB.out.cell (World.block_lt_of_cell? w _ hw348_1)).trans hw348_1), ((HB.out.cell (World.block_lt_of_cell? w _ hw348_2)).trans hw348_2)⟩ (fun hHeld => ?_); refine with_tabW cachepothand_Writes.tab5 cachepothand_Writes.bits5 (fun HT_ HW_ => ?_)
                    generalize wc.drew = w12 at HO_5 HB hx346_0 hx346_1 hx346_2 hx348_0 hx348_1 hx348_2 hHeld ⊢
                    refine pure_ (i := 0) (N := some 19) (v := ?_) (a' := ?_) #[true, false, false, false, false, false, false, false, false, false, false, false, false, false] rfl rfl (any_of HT_.out (by kernel_rfl)) (fun _ _ _ h => h) (Or.inl ⟨by rfl, ?_⟩) ?_ ?_
                    rotate_left
                    · intro w'
                      go_simp
                      with_reducible rfl
                    rotate_left
                    · simp only [Act.put, List.setIfInBounds_toArray, List.set_cons_zero, List.set_cons_succ, i64_w, i32_w]
                      rfl
                    refine pure_ (i := 1) (N := some 20) (v := ?_) (a' := ?_) #[true, true, false, false, false, false, false, false, false, false, false, false, false, false] rfl rfl (any_of HT_.out (by kernel_rfl)) (fun _ _ _ h => h) (Or.inl ⟨by rfl, ?_⟩) ?_ ?_
                    rotate_left
                    · intro w'
                      go_simp
                      with_reducible rfl
                    rotate_left
                    · simp only [Act.put, List.setIfInBounds_toArray, List.set_cons_zero, List.set_cons_succ, i64_w, i32_w]
                      rfl
                    refine pure_ (i := 2) (N := some 21) (v := ?_) (a' := ?_) #[true, true, true, false, false, false, false, false, false, false, false, false, false, false] rfl rfl (any_of HT_.out (by kernel_rfl)) (fun _ _ _ h => h) (Or.inl ⟨by rfl, ?_⟩) ?_ ?_
                    rotate_left
                    · intro w'
                      go_simp
                      with_reducible rfl
                    rotate_left
                    · simp only [Act.put, List.setIfInBounds_toArray, List.set_cons_zero, List.set_cons_succ, i64_w, i32_w]
                      rfl
                    refine pure_ (i := 3) (N := some 22) (v := ?_) (a' := ?_) #[true, true, true, true, false, false, false, false, false, false, false, false, false, false] rfl rfl (any_of HT_.out (by kernel_rfl)) (fun _ _ _ h => h) (Or.inl ⟨by rfl, ?_⟩) ?_ ?_
                    rotate_left
                    · intro w'
                      go_simp
                      with_reducible rfl
                    rotate_left
                    · simp only [Act.put, List.setIfInBounds_toArray, List.set_cons_zero, List.set_cons_succ, i64_w, i32_w]
                      rfl
                    refine pure_ (i := 6) (N := some 25) (v := ?_) (a' := ?_) #[true, true, true, true, false, false, true, false, false, false, false, false, false, false] rfl rfl (any_of HT_.out (by kernel_rfl)) (fun _ _ _ h => h) (Or.inl ⟨by rfl, ?_⟩) ?_ ?_
                    rotate_left
                    · intro w'
                      go_simp
                      with_reducible rfl
                    rotate_left
                    · simp only [Act.put, List.setIfInBounds_toArray, List.set_cons_zero, List.set_cons_succ, i64_w, i32_w]
                      rfl
                    refine pure_ (i := 7) (N := some 26) (v := ?_) (a' := ?_) #[true, true, true, true, false, false, true, true, false, false, false, false, false, false] rfl rfl (any_of HT_.out (by kernel_rfl)) (fun _ _ _ h => h) (Or.inl ⟨by rfl, ?_⟩) ?_ ?_
                    rotate_left
                    · intro w'
                      go_simp
                      with_reducible rfl
                    rotate_left
                    · simp only [Act.put, List.setIfInBounds_toArray, List.set_cons_zero, List.set_cons_succ, i64_w, i32_w]
                      rfl
                    refine pure_ (i := 8) (N := some 27) (v := ?_) (a' := ?_) #[true, true, true, true, false, false, true, true, true, false, false, false, false, false] rfl rfl (any_of HT_.out (by kernel_rfl)) (fun _ _ _ h => h) (Or.inl ⟨by rfl, ?_⟩) ?_ ?_
                    rotate_left
                    · intro w'
                      go_simp
                      with_reducible rfl
                    rotate_left
                    · simp only [Act.put, List.setIfInBounds_toArray, List.set_cons_zero, List.set_cons_succ, i64_w, i32_w]
                      rfl
                    refine pure_ (i := 9) (N := some 28) (v := ?_) (a' := ?_) #[true, true, true, true, false, false, true, true, true, true, false, false, false, false] rfl rfl (any_of HT_.out (by kernel_rfl)) (fun _ _ _ h => h) (Or.inl ⟨by rfl, ?_⟩) ?_ ?_
                    rotate_left
                    · intro w'
                      go_simp
                      with_reducible rfl
                    rotate_left
                    · simp only [Act.put, List.setIfInBounds_toArray, List.set_cons_zero, List.set_cons_succ, i64_w, i32_w]
                      rfl
                    refine take_ (i := 4) (N := some 23) (v := ?_) (a' := ?_) #[true, true, true, true, true, false, true, true, true, true, false, false, false, false] rfl rfl (take_ofW HT_.out HW_.out (by kernel_rfl)) (fun _ _ _ h => h) (Or.inl ⟨by rfl, ?_⟩) hHeld ?_ ?_
                    rotate_left
                    · rintro w' ⟨s0, s1, s2, s3, s4, s5⟩
                      go_simp
                      with_reducible rfl
                    rotate_left
                    · simp only [Act.put, List.setIfInBounds_toArray, List.set_cons_zero, List.set_cons_succ, i64_w, i32_w]
                      rfl
                    refine take_ (i := 10) (N := some 29) (v := ?_) (a' := ?_) #[true, true, true, true, true, false, true, true, true, true, true, false, false, false] rfl rfl (take_ofW HT_.out HW_.out (by kernel_rfl)) (fun _ _ _ h => h) (Or.inl ⟨by rfl, ?_⟩) hHeld ?_ ?_
                    rotate_left
                    · rintro w' ⟨s0, s1, s2, s3, s4, s5⟩
                      go_simp
                      with_reducible rfl
                    rotate_left
                    · simp only [Act.put, List.setIfInBounds_toArray, List.set_cons_zero, List.set_cons_succ, i64_w, i32_w]
                      rfl
                    refine join_ (σ := Nat) 1 #[true, true, true, true, true, true, true, true, true, true, true, true, true, false] (fun s_ => [(24, .string t347), (7, .pointer (some ⟨s_, 0, none⟩)), (30, .agg #[.string t347, .bool true, .string (⟨#[]⟩ : ByteArray)])]) (fun s_ w' => (w'.cell? (ad346.add ((x6_1).toNat * 3)) = some (.int .i64 ((rd_T139 l0 x6_1).f0)) ∧ w'.cell? ⟨(ad346.add ((x6_1).toNat * 3)).block, (ad346.add ((x6_1).toNat * 3)).off + 1, none⟩ = some (.bool true) ∧ w'.cell? ⟨(ad346.add ((x6_1).toNat * 3)).block, (ad346.add ((x6_1).toNat * 3)).off + 2, none⟩ = some (.string ((rd_T139 l0 x6_1).f2)) ∧ w'.cell? (ad346.add ((x6_1).toNat * 3)) = some (.int .i64 ((rd_T139 l0 x6_1).f0)) ∧ w'.cell? ⟨(ad346.add ((x6_1).toNat * 3)).block, (ad346.add ((x6_1).toNat * 3)).off + 1, none⟩ = some (.bool true) ∧ w'.cell? ⟨(ad346.add ((x6_1).toNat * 3)).block, (ad346.add ((x6_1).toNat * 3)).off + 2, none⟩ = some (.string ((rd_T139 l0 x6_1).f2))) ∧ (Kd.R k101 101 w' w.heap.size (fun k_ => k_ ≠ s_) u5 x5_1) ∧ (w'.heap[s_]? = some (.cells #[.string (⟨#[]⟩ : ByteArray), .bool false, .string (⟨#[]⟩ : ByteArray)] 101 (0, 0))) ∧ (w.heap.size ≤ s_) ∧ (w.heap.size ≤ s_) ∧ (Below w.heap.size w w')) ?_ ?_
                    rotate_left
                    · intro hCont
                      refine two_ (i := 5) (j := 12) (Ni := some 24) (Nj := some 7) #[true, true, true, true, true, true, true, true, true, true, true, false, false, false] #[true, true, true, true, true, false, true, true, true, true, true, false, true, false] rfl rfl rfl rfl (two_of HT_.out (by kernel_rfl)) (by decide) (by decide) (fun K hK => ?_) (fun K hK => ?_)
                      · skip
                        refine goes_ Tryd.func50 (by kernel_rfl) rfl #[.int .i64 ((rd_T139 l0 x6_1).f0)] (by rfl) rfl rfl (by (try simp only [List.map_toArray, List.map_cons, List.map_nil]); first | done | rfl | (simp only [List.length_drop, List.length_take]; rfl)) ?_
                        with_reducible refine (cachepothand_Key.calls ((rd_T139 l0 x6_1).f0) t347 _ A8.out (by first | exact hT | (refine Tabs.below hT ?_; (repeat (first | (with_reducible first | exact HB.out | exact Below.refl _ _ | apply below_alloc | apply pw_below_drewN | apply below_drew1) | exact HB.out))))).mono ?_
                        rintro e w13 ⟨rfl, hb⟩
                        refine ⟨_, rfl, ?_⟩
                        have n0_ := Aside0.mk (Kd.R_below (by (with_reducible repeat (first | apply Kd.R_alloc | apply Kd.R_drewN | apply Kd.R_drew)); exact HO_5.out) hb)
                        have n1_ := Aside0.mk (below_step (by repeat (first | (with_reducible first | exact HB.out | apply below_alloc | apply pw_below_drewN | apply below_drew1) | exact HB.out)) hb)
                        clear HO_5
                        clear HB
                        have HO_5 := n0_
                        have HB := n1_
                        clear n0_ n1_
                        (try clear hb)
                        (try clear hb2)
                        (try clear hk)
                        (try clear hi)
                        refine hK.out _ _ ⟨((HB.out.cell (World.block_lt_of_cell? w _ hw346_0)).trans hw346_0), ((HB.out.cell (World.block_lt_of_cell? w _ hw346_1)).trans hw346_1), ((HB.out.cell (World.block_lt_of_cell? w _ hw346_2)).trans hw346_2), ((HB.out.cell (World.block_lt_of_cell? w _ hw348_0)).trans hw348_0), ((HB.out.cell (World.block_lt_of_cell? w _ hw348_1)).trans hw348_1), ((HB.out.cell (World.block_lt_of_cell? w _ hw348_2)).trans hw348_2)⟩ (fun hHeld => ?_)
                        clear hK K
                        refine norm_ (a' := ?_) ?_ ?_
                        rotate_left
                        · show Act.put _ (some 24) _ = _
                          simp only [Act.put, List.setIfInBounds_toArray, List.set_cons_zero, List.set_cons_succ, i64_w, i32_w]
                          rfl
                        refine pure_ (i := 11) (N := some 30) (v := ?_) (a' := ?_) #[true, true, true, true, true, true, true, true, true, true, true, true, false, false] rfl rfl (any_of HT_.out (by kernel_rfl)) (fun _ _ _ h => h) (Or.inl ⟨by rfl, ?_⟩) ?_ ?_
                        rotate_left
                        · intro w'
                          go_simp
                          with_reducible rfl
                        rotate_left
                        · simp only [Act.put, List.setIfInBounds_toArray, List.set_cons_zero, List.set_cons_succ, i64_w, i32_w]
                          rfl
                        refine one_ (i := 12) (N := some 7) #[true, true, true, true, true, true, true, true, true, true, true, true, true, false] rfl rfl (one_of HT_.out (by kernel_rfl)) (by decide) (fun K hK => ?_)
                        refine box_step ?hg (N := 7) ?hd (cs := #[.string (⟨#[]⟩ : ByteArray), .bool false, .string (⟨#[]⟩ : ByteArray)]) (t := 101) ?hr ?_; (case hd => rfl); (case hg => rfl); (case hr => first | (go_simp; done) | (go_simp; rfl))
                        intro gb349 hg w14 hbox hb
                        have n0_ := Aside0.mk (Kd.R_below (Kd.R_elderB (by (with_reducible repeat (first | apply Kd.R_alloc | apply Kd.R_drewN | apply Kd.R_drew)); exact HO_5.out) gb349 (Nat.le_of_eq hg.symm)) hb)
                        have n1_ := Aside0.mk (below_step (by repeat (first | (with_reducible first | exact HB.out | apply below_alloc | apply pw_below_drewN | apply below_drew1) | exact HB.out)) hb)
                        have n2_ := Aside0.mk (hbox)
                        have n3_ := Aside0.mk ((by rw [hg]; exact (below_size (by repeat (first | (with_reducible first | exact HB.out | apply below_alloc | apply pw_below_drewN | apply below_drew1) | exact HB.out))) : w.heap.size ≤ gb349))
                        have n4_ := Aside0.mk ((by rw [hg]; exact (below_size (by repeat (first | (with_reducible first | exact HB.out | apply below_alloc | apply pw_below_drewN | apply below_drew1) | exact HB.out))) : w.heap.size ≤ gb349))
                        clear HO_5
                        clear HB
                        have HO_5 := n0_
                        have HB := n1_
                        have BK349 := n2_
                        have GW349 := n3_
                        have GE349 := n4_
                        clear n0_ n1_ n2_ n3_ n4_
                        clear hb hbox hg
                        refine hK.out _ _ ⟨((HB.out.cell (World.block_lt_of_cell? w _ hw346_0)).trans hw346_0), ((HB.out.cell (World.block_lt_of_cell? w _ hw346_1)).trans hw346_1), ((HB.out.cell (World.block_lt_of_cell? w _ hw346_2)).trans hw346_2), ((HB.out.cell (World.block_lt_of_cell? w _ hw348_0)).trans hw348_0), ((HB.out.cell (World.block_lt_of_cell? w _ hw348_1)).trans hw348_1), ((HB.out.cell (World.block_lt_of_cell? w _ hw348_2)).trans hw348_2)⟩ (fun hHeld => ?_)
                        clear hK K
                        refine norm_ (a' := ?_) ?_ ?_
                        rotate_left
                        · show Act.put _ (some 7) _ = _
                          simp only [Act.put, List.setIfInBounds_toArray, List.set_cons_zero, List.set_cons_succ, i64_w, i32_w]
                          rfl
                        exact norm_ (by simp only [putAll, Act.put, List.setIfInBounds_toArray, List.set_cons_zero, List.set_cons_succ]) (hCont (gb349) _ ⟨hHeld, (by (with_reducible repeat (first | apply Kd.R_alloc | apply Kd.R_drewN | apply Kd.R_drew)); exact Kd.R_mono HO_5.out (fun _ hk => hk.2)), (by (with_reducible repeat (first | refine blk_drewN ?_ _ | refine blk_drew ?_ | refine blk_alloc ?_ _)); exact BK349.out), GW349.out, GE349.out, (by repeat (first | (with_reducible first | exact HB.out | apply below_alloc | apply pw_below_drewN | apply below_drew1 | refine below_set ?_ GE349.out) | exact HB.out))⟩)
                      · skip
                        refine box_step ?hg (N := 7) ?hd (cs := #[.string (⟨#[]⟩ : ByteArray), .bool false, .string (⟨#[]⟩ : ByteArray)]) (t := 101) ?hr ?_; (case hd => rfl); (case hg => rfl); (case hr => first | (go_simp; done) | (go_simp; rfl))
                        intro gb349 hg w13 hbox hb
                        have n0_ := Aside0.mk (Kd.R_below (Kd.R_elderB (by (with_reducible repeat (first | apply Kd.R_alloc | apply Kd.R_drewN | apply Kd.R_drew)); exact HO_5.out) gb349 (Nat.le_of_eq hg.symm)) hb)
                        have n1_ := Aside0.mk (below_step (by repeat (first | (with_reducible first | exact HB.out | apply below_alloc | apply pw_below_drewN | apply below_drew1) | exact HB.out)) hb)
                        have n2_ := Aside0.mk (hbox)
                        have n3_ := Aside0.mk ((by rw [hg]; exact (below_size (by repeat (first | (with_reducible first | exact HB.out | apply below_alloc | apply pw_below_drewN | apply below_drew1) | exact HB.out))) : w.heap.size ≤ gb349))
                        have n4_ := Aside0.mk ((by rw [hg]; exact (below_size (by repeat (first | (with_reducible first | exact HB.out | apply below_alloc | apply pw_below_drewN | apply below_drew1) | exact HB.out))) : w.heap.size ≤ gb349))
                        clear HO_5
                        clear HB
                        have HO_5 := n0_
                        have HB := n1_
                        have BK349 := n2_
                        have GW349 := n3_
                        have GE349 := n4_
                        clear n0_ n1_ n2_ n3_ n4_
                        clear hb hbox hg
                        refine hK.out _ _ ⟨((HB.out.cell (World.block_lt_of_cell? w _ hw346_0)).trans hw346_0), ((HB.out.cell (World.block_lt_of_cell? w _ hw346_1)).trans hw346_1), ((HB.out.cell (World.block_lt_of_cell? w _ hw346_2)).trans hw346_2), ((HB.out.cell (World.block_lt_of_cell? w _ hw348_0)).trans hw348_0), ((HB.out.cell (World.block_lt_of_cell? w _ hw348_1)).trans hw348_1), ((HB.out.cell (World.block_lt_of_cell? w _ hw348_2)).trans hw348_2)⟩ (fun hHeld => ?_)
                        clear hK K
                        refine norm_ (a' := ?_) ?_ ?_
                        rotate_left
                        · show Act.put _ (some 7) _ = _
                          simp only [Act.put, List.setIfInBounds_toArray, List.set_cons_zero, List.set_cons_succ, i64_w, i32_w]
                          rfl
                        refine one_ (i := 5) (N := some 24) #[true, true, true, true, true, true, true, true, true, true, true, false, true, false] rfl rfl (one_of HT_.out (by kernel_rfl)) (by decide) (fun K hK => ?_)
                        refine goes_ Tryd.func50 (by kernel_rfl) rfl #[.int .i64 ((rd_T139 l0 x6_1).f0)] (by rfl) rfl rfl (by (try simp only [List.map_toArray, List.map_cons, List.map_nil]); first | done | rfl | (simp only [List.length_drop, List.length_take]; rfl)) ?_
                        with_reducible refine (cachepothand_Key.calls ((rd_T139 l0 x6_1).f0) t347 _ A8.out (by first | exact hT | (refine Tabs.below hT ?_; (repeat (first | (with_reducible first | exact HB.out | exact Below.refl _ _ | apply below_alloc | apply pw_below_drewN | apply below_drew1) | exact HB.out))))).mono ?_
                        rintro e w14 ⟨rfl, hb⟩
                        refine ⟨_, rfl, ?_⟩
                        have n0_ := Aside0.mk (Kd.R_below (by (with_reducible repeat (first | apply Kd.R_alloc | apply Kd.R_drewN | apply Kd.R_drew)); exact HO_5.out) hb)
                        have n1_ := Aside0.mk (blk_below (g := gb349) (o := .cells #[.string (⟨#[]⟩ : ByteArray), .bool false, .string (⟨#[]⟩ : ByteArray)] 101 (0, 0)) (by (with_reducible repeat (first | refine blk_drewN ?_ _ | refine blk_drew ?_ | refine blk_alloc ?_ _)); exact BK349.out) hb)
                        have n2_ := Aside0.mk (below_step (by repeat (first | (with_reducible first | exact HB.out | apply below_alloc | apply pw_below_drewN | apply below_drew1 | refine below_set ?_ GE349.out) | exact HB.out)) hb)
                        clear HO_5
                        clear BK349
                        clear HB
                        have HO_5 := n0_
                        have BK349 := n1_
                        have HB := n2_
                        clear n0_ n1_ n2_
                        (try clear hb)
                        (try clear hb2)
                        (try clear hk)
                        (try clear hi)
                        refine hK.out _ _ ⟨((HB.out.cell (World.block_lt_of_cell? w _ hw346_0)).trans hw346_0), ((HB.out.cell (World.block_lt_of_cell? w _ hw346_1)).trans hw346_1), ((HB.out.cell (World.block_lt_of_cell? w _ hw346_2)).trans hw346_2), ((HB.out.cell (World.block_lt_of_cell? w _ hw348_0)).trans hw348_0), ((HB.out.cell (World.block_lt_of_cell? w _ hw348_1)).trans hw348_1), ((HB.out.cell (World.block_lt_of_cell? w _ hw348_2)).trans hw348_2)⟩ (fun hHeld => ?_)
                        clear hK K
                        refine norm_ (a' := ?_) ?_ ?_
                        rotate_left
                        · show Act.put _ (some 24) _ = _
                          simp only [Act.put, List.setIfInBounds_toArray, List.set_cons_zero, List.set_cons_succ, i64_w, i32_w]
                          rfl
                        refine pure_ (i := 11) (N := some 30) (v := ?_) (a' := ?_) #[true, true, true, true, true, true, true, true, true, true, true, true, true, false] rfl rfl (any_of HT_.out (by kernel_rfl)) (fun _ _ _ h => h) (Or.inl ⟨by rfl, ?_⟩) ?_ ?_
                        rotate_left
                        · intro w'
                          go_simp
                          with_reducible rfl
                        rotate_left
                        · simp only [Act.put, List.setIfInBounds_toArray, List.set_cons_zero, List.set_cons_succ, i64_w, i32_w]
                          rfl
                        exact norm_ (by simp only [putAll, Act.put, List.setIfInBounds_toArray, List.set_cons_zero, List.set_cons_succ]) (hCont (gb349) _ ⟨hHeld, (by (with_reducible repeat (first | apply Kd.R_alloc | apply Kd.R_drewN | apply Kd.R_drew)); exact Kd.R_mono HO_5.out (fun _ hk => hk.2)), (by (with_reducible repeat (first | refine blk_drewN ?_ _ | refine blk_drew ?_ | refine blk_alloc ?_ _)); exact BK349.out), GW349.out, GE349.out, (by repeat (first | (with_reducible first | exact HB.out | apply below_alloc | apply pw_below_drewN | apply below_drew1 | refine below_set ?_ GE349.out) | exact HB.out))⟩)
                    rintro gb349 w15 ⟨hS_, h0_, h1_, h2_, h3_, h4_⟩
                    have n0_ : Aside0 (Kd.R k101 101 w15 w.heap.size (fun k_ => k_ ≠ gb349) u5 x5_1) := ⟨h0_⟩
                    have n1_ : Aside0 (w15.heap[gb349]? = some (.cells #[.string (⟨#[]⟩ : ByteArray), .bool false, .string (⟨#[]⟩ : ByteArray)] 101 (0, 0))) := ⟨h1_⟩
                    have n2_ : Aside0 (w.heap.size ≤ gb349) := ⟨h2_⟩
                    have n3_ : Aside0 (w.heap.size ≤ gb349) := ⟨h3_⟩
                    have n4_ : Aside0 (Below w.heap.size w w15) := ⟨h4_⟩
                    clear HO_5
                    clear HB
                    clear h0_ h1_ h2_ h3_ h4_
                    have HO_5 := n0_
                    have BK349 := n1_
                    have GW349 := n2_
                    have GE349 := n3_
                    have HB := n4_
                    clear n0_ n1_ n2_ n3_ n4_
                    have hHeld : w15.cell? (ad346.add ((x6_1).toNat * 3)) = some (.int .i64 ((rd_T139 l0 x6_1).f0)) ∧ w15.cell? ⟨(ad346.add ((x6_1).toNat * 3)).block, (ad346.add ((x6_1).toNat * 3)).off + 1, none⟩ = some (.bool true) ∧ w15.cell? ⟨(ad346.add ((x6_1).toNat * 3)).block, (ad346.add ((x6_1).toNat * 3)).off + 2, none⟩ = some (.string ((rd_T139 l0 x6_1).f2)) ∧ w15.cell? (ad346.add ((x6_1).toNat * 3)) = some (.int .i64 ((rd_T139 l0 x6_1).f0)) ∧ w15.cell? ⟨(ad346.add ((x6_1).toNat * 3)).block, (ad346.add ((x6_1).toNat * 3)).off + 1, none⟩ = some (.bool true) ∧ w15.cell? ⟨(ad346.add ((x6_1).toNat * 3)).block, (ad346.add ((x6_1).toNat * 3)).off + 2, none⟩ = some (.string ((rd_T139 l0 x6_1).f2)) := hS_
                    refine norm_ (a' := ?_) ?_ ?_
                    rotate_left
                    · simp only [putAll, Act.put, List.setIfInBounds_toArray, List.set_cons_zero, List.set_cons_succ]
                      rfl
                    refine one_ (i := 13) (N := none) #[true, true, true, true, true, true, true, true, true, true, true, true, true, true] rfl rfl (one_of HT_.out (by kernel_rfl)) (by decide) (fun K hK => ?_)
                    have hs16 : w15.cell? ⟨gb349, 0, none⟩ = some (.string (⟨#[]⟩ : ByteArray)) := (blk_cell BK349.out 0).trans rfl
                    have hfs16 := blk_frozen BK349.out 0
                    have hs17 : w15.cell? ⟨gb349, 1, none⟩ = some (.bool false) := (blk_cell BK349.out 1).trans rfl
                    have hfs17 := blk_frozen BK349.out 1
                    have hs18 : w15.cell? ⟨gb349, 2, none⟩ = some (.string (⟨#[]⟩ : ByteArray)) := (blk_cell BK349.out 2).trans rfl
                    have hfs18 := blk_frozen BK349.out 2
                    refine skip_ (w1 := ?_) (by rfl) rfl ?_ ?_
                    rotate_left
                    · go_simp
                      rfl
                    refine hK.out _ _ ⟨((cell_far (p := ⟨gb349, _, none⟩) (by first | exact Nat.ne_of_lt (Nat.lt_of_lt_of_le (by have := World.block_lt_of_cell? _ _ hw346_0; first | rwa [add_block] at this | exact this) GW349.out) | (rw [add_block]; exact Nat.ne_of_lt (Nat.lt_of_lt_of_le (by have := World.block_lt_of_cell? _ _ hw346_0; first | rwa [add_block] at this | exact this) GW349.out)) | (show (Addr.add _ _).block ≠ _; rw [add_block]; exact Nat.ne_of_lt (Nat.lt_of_lt_of_le (by have := World.block_lt_of_cell? _ _ hw346_0; first | rwa [add_block] at this | exact this) GW349.out)) | (dsimp only; exact Nat.ne_of_lt (Nat.lt_of_lt_of_le (by have := World.block_lt_of_cell? _ _ hw346_0; first | rwa [add_block] at this | exact this) GW349.out))) _).trans (((cell_far (p := ⟨gb349, _, none⟩) (by first | exact Nat.ne_of_lt (Nat.lt_of_lt_of_le (by have := World.block_lt_of_cell? _ _ hw346_0; first | rwa [add_block] at this | exact this) GW349.out) | (rw [add_block]; exact Nat.ne_of_lt (Nat.lt_of_lt_of_le (by have := World.block_lt_of_cell? _ _ hw346_0; first | rwa [add_block] at this | exact this) GW349.out)) | (show (Addr.add _ _).block ≠ _; rw [add_block]; exact Nat.ne_of_lt (Nat.lt_of_lt_of_le (by have := World.block_lt_of_cell? _ _ hw346_0; first | rwa [add_block] at this | exact this) GW349.out)) | (dsimp only; exact Nat.ne_of_lt (Nat.lt_of_lt_of_le (by have := World.block_lt_of_cell? _ _ hw346_0; first | rwa [add_block] at this | exact this) GW349.out))) _).trans (((cell_far (p := ⟨gb349, _, none⟩) (by first | exact Nat.ne_of_lt (Nat.lt_of_lt_of_le (by have := World.block_lt_of_cell? _ _ hw346_0; first | rwa [add_block] at this | exact this) GW349.out) | (rw [add_block]; exact Nat.ne_of_lt (Nat.lt_of_lt_of_le (by have := World.block_lt_of_cell? _ _ hw346_0; first | rwa [add_block] at this | exact this) GW349.out)) | (show (Addr.add _ _).block ≠ _; rw [add_block]; exact Nat.ne_of_lt (Nat.lt_of_lt_of_le (by have := World.block_lt_of_cell? _ _ hw346_0; first | rwa [add_block] at this | exact this) GW349.out)) | (dsimp only; exact Nat.ne_of_lt (Nat.lt_of_lt_of_le (by have := World.block_lt_of_cell? _ _ hw346_0; first | rwa [add_block] at this | exact this) GW349.out))) _).trans (hHeld.1)))))), ((cell_far (p := ⟨gb349, _, none⟩) (by first | exact Nat.ne_of_lt (Nat.lt_of_lt_of_le (by have := World.block_lt_of_cell? _ _ hw346_1; first | rwa [add_block] at this | exact this) GW349.out) | (rw [add_block]; exact Nat.ne_of_lt (Nat.lt_of_lt_of_le (by have := World.block_lt_of_cell? _ _ hw346_1; first | rwa [add_block] at this | exact this) GW349.out)) | (show (Addr.add _ _).block ≠ _; rw [add_block]; exact Nat.ne_of_lt (Nat.lt_of_lt_of_le (by have := World.block_lt_of_cell? _ _ hw346_1; first | rwa [add_block] at this | exact this) GW349.out)) | (dsimp only; exact Nat.ne_of_lt (Nat.lt_of_lt_of_le (by have := World.block_lt_of_cell? _ _ hw346_1; first | rwa [add_block] at this | exact this) GW349.out))) _).trans (((cell_far (p := ⟨gb349, _, none⟩) (by first | exact Nat.ne_of_lt (Nat.lt_of_lt_of_le (by have := World.block_lt_of_cell? _ _ hw346_1; first | rwa [add_block] at this | exact this) GW349.out) | (rw [add_block]; exact Nat.ne_of_lt (Nat.lt_of_lt_of_le (by have := World.block_lt_of_cell? _ _ hw346_1; first | rwa [add_block] at this | exact this) GW349.out)) | (show (Addr.add _ _).block ≠ _; rw [add_block]; exact Nat.ne_of_lt (Nat.lt_of_lt_of_le (by have := World.block_lt_of_cell? _ _ hw346_1; first | rwa [add_block] at this | exact this) GW349.out)) | (dsimp only; exact Nat.ne_of_lt (Nat.lt_of_lt_of_le (by have := World.block_lt_of_cell? _ _ hw346_1; first | rwa [add_block] at this | exact this) GW349.out))) _).trans (((cell_far (p := ⟨gb349, _, none⟩) (by first | exact Nat.ne_of_lt (Nat.lt_of_lt_of_le (by have := World.block_lt_of_cell? _ _ hw346_1; first | rwa [add_block] at this | exact this) GW349.out) | (rw [add_block]; exact Nat.ne_of_lt (Nat.lt_of_lt_of_le (by have := World.block_lt_of_cell? _ _ hw346_1; first | rwa [add_block] at this | exact this) GW349.out)) | (show (Addr.add _ _).block ≠ _; rw [add_block]; exact Nat.ne_of_lt (Nat.lt_of_lt_of_le (by have := World.block_lt_of_cell? _ _ hw346_1; first | rwa [add_block] at this | exact this) GW349.out)) | (dsimp only; exact Nat.ne_of_lt (Nat.lt_of_lt_of_le (by have := World.block_lt_of_cell? _ _ hw346_1; first | rwa [add_block] at this | exact this) GW349.out))) _).trans (hHeld.2.1)))))), ((cell_far (p := ⟨gb349, _, none⟩) (by first | exact Nat.ne_of_lt (Nat.lt_of_lt_of_le (by have := World.block_lt_of_cell? _ _ hw346_2; first | rwa [add_block] at this | exact this) GW349.out) | (rw [add_block]; exact Nat.ne_of_lt (Nat.lt_of_lt_of_le (by have := World.block_lt_of_cell? _ _ hw346_2; first | rwa [add_block] at this | exact this) GW349.out)) | (show (Addr.add _ _).block ≠ _; rw [add_block]; exact Nat.ne_of_lt (Nat.lt_of_lt_of_le (by have := World.block_lt_of_cell? _ _ hw346_2; first | rwa [add_block] at this | exact this) GW349.out)) | (dsimp only; exact Nat.ne_of_lt (Nat.lt_of_lt_of_le (by have := World.block_lt_of_cell? _ _ hw346_2; first | rwa [add_block] at this | exact this) GW349.out))) _).trans (((cell_far (p := ⟨gb349, _, none⟩) (by first | exact Nat.ne_of_lt (Nat.lt_of_lt_of_le (by have := World.block_lt_of_cell? _ _ hw346_2; first | rwa [add_block] at this | exact this) GW349.out) | (rw [add_block]; exact Nat.ne_of_lt (Nat.lt_of_lt_of_le (by have := World.block_lt_of_cell? _ _ hw346_2; first | rwa [add_block] at this | exact this) GW349.out)) | (show (Addr.add _ _).block ≠ _; rw [add_block]; exact Nat.ne_of_lt (Nat.lt_of_lt_of_le (by have := World.block_lt_of_cell? _ _ hw346_2; first | rwa [add_block] at this | exact this) GW349.out)) | (dsimp only; exact Nat.ne_of_lt (Nat.lt_of_lt_of_le (by have := World.block_lt_of_cell? _ _ hw346_2; first | rwa [add_block] at this | exact this) GW349.out))) _).trans (((cell_far (p := ⟨gb349, _, none⟩) (by first | exact Nat.ne_of_lt (Nat.lt_of_lt_of_le (by have := World.block_lt_of_cell? _ _ hw346_2; first | rwa [add_block] at this | exact this) GW349.out) | (rw [add_block]; exact Nat.ne_of_lt (Nat.lt_of_lt_of_le (by have := World.block_lt_of_cell? _ _ hw346_2; first | rwa [add_block] at this | exact this) GW349.out)) | (show (Addr.add _ _).block ≠ _; rw [add_block]; exact Nat.ne_of_lt (Nat.lt_of_lt_of_le (by have := World.block_lt_of_cell? _ _ hw346_2; first | rwa [add_block] at this | exact this) GW349.out)) | (dsimp only; exact Nat.ne_of_lt (Nat.lt_of_lt_of_le (by have := World.block_lt_of_cell? _ _ hw346_2; first | rwa [add_block] at this | exact this) GW349.out))) _).trans (hHeld.2.2.1)))))), ((cell_far (p := ⟨gb349, _, none⟩) (by first | exact Nat.ne_of_lt (Nat.lt_of_lt_of_le (by have := World.block_lt_of_cell? _ _ hw348_0; first | rwa [add_block] at this | exact this) GW349.out) | (rw [add_block]; exact Nat.ne_of_lt (Nat.lt_of_lt_of_le (by have := World.block_lt_of_cell? _ _ hw348_0; first | rwa [add_block] at this | exact this) GW349.out)) | (show (Addr.add _ _).block ≠ _; rw [add_block]; exact Nat.ne_of_lt (Nat.lt_of_lt_of_le (by have := World.block_lt_of_cell? _ _ hw348_0; first | rwa [add_block] at this | exact this) GW349.out)) | (dsimp only; exact Nat.ne_of_lt (Nat.lt_of_lt_of_le (by have := World.block_lt_of_cell? _ _ hw348_0; first | rwa [add_block] at this | exact this) GW349.out))) _).trans (((cell_far (p := ⟨gb349, _, none⟩) (by first | exact Nat.ne_of_lt (Nat.lt_of_lt_of_le (by have := World.block_lt_of_cell? _ _ hw348_0; first | rwa [add_block] at this | exact this) GW349.out) | (rw [add_block]; exact Nat.ne_of_lt (Nat.lt_of_lt_of_le (by have := World.block_lt_of_cell? _ _ hw348_0; first | rwa [add_block] at this | exact this) GW349.out)) | (show (Addr.add _ _).block ≠ _; rw [add_block]; exact Nat.ne_of_lt (Nat.lt_of_lt_of_le (by have := World.block_lt_of_cell? _ _ hw348_0; first | rwa [add_block] at this | exact this) GW349.out)) | (dsimp only; exact Nat.ne_of_lt (Nat.lt_of_lt_of_le (by have := World.block_lt_of_cell? _ _ hw348_0; first | rwa [add_block] at this | exact this) GW349.out))) _).trans (((cell_far (p := ⟨gb349, _, none⟩) (by first | exact Nat.ne_of_lt (Nat.lt_of_lt_of_le (by have := World.block_lt_of_cell? _ _ hw348_0; first | rwa [add_block] at this | exact this) GW349.out) | (rw [add_block]; exact Nat.ne_of_lt (Nat.lt_of_lt_of_le (by have := World.block_lt_of_cell? _ _ hw348_0; first | rwa [add_block] at this | exact this) GW349.out)) | (show (Addr.add _ _).block ≠ _; rw [add_block]; exact Nat.ne_of_lt (Nat.lt_of_lt_of_le (by have := World.block_lt_of_cell? _ _ hw348_0; first | rwa [add_block] at this | exact this) GW349.out)) | (dsimp only; exact Nat.ne_of_lt (Nat.lt_of_lt_of_le (by have := World.block_lt_of_cell? _ _ hw348_0; first | rwa [add_block] at this | exact this) GW349.out))) _).trans (hHeld.2.2.2.1)))))), ((cell_far (p := ⟨gb349, _, none⟩) (by first | exact Nat.ne_of_lt (Nat.lt_of_lt_of_le (by have := World.block_lt_of_cell? _ _ hw348_1; first | rwa [add_block] at this | exact this) GW349.out) | (rw [add_block]; exact Nat.ne_of_lt (Nat.lt_of_lt_of_le (by have := World.block_lt_of_cell? _ _ hw348_1; first | rwa [add_block] at this | exact this) GW349.out)) | (show (Addr.add _ _).block ≠ _; rw [add_block]; exact Nat.ne_of_lt (Nat.lt_of_lt_of_le (by have := World.block_lt_of_cell? _ _ hw348_1; first | rwa [add_block] at this | exact this) GW349.out)) | (dsimp only; exact Nat.ne_of_lt (Nat.lt_of_lt_of_le (by have := World.block_lt_of_cell? _ _ hw348_1; first | rwa [add_block] at this | exact this) GW349.out))) _).trans (((cell_far (p := ⟨gb349, _, none⟩) (by first | exact Nat.ne_of_lt (Nat.lt_of_lt_of_le (by have := World.block_lt_of_cell? _ _ hw348_1; first | rwa [add_block] at this | exact this) GW349.out) | (rw [add_block]; exact Nat.ne_of_lt (Nat.lt_of_lt_of_le (by have := World.block_lt_of_cell? _ _ hw348_1; first | rwa [add_block] at this | exact this) GW349.out)) | (show (Addr.add _ _).block ≠ _; rw [add_block]; exact Nat.ne_of_lt (Nat.lt_of_lt_of_le (by have := World.block_lt_of_cell? _ _ hw348_1; first | rwa [add_block] at this | exact this) GW349.out)) | (dsimp only; exact Nat.ne_of_lt (Nat.lt_of_lt_of_le (by have := World.block_lt_of_cell? _ _ hw348_1; first | rwa [add_block] at this | exact this) GW349.out))) _).trans (((cell_far (p := ⟨gb349, _, none⟩) (by first | exact Nat.ne_of_lt (Nat.lt_of_lt_of_le (by have := World.block_lt_of_cell? _ _ hw348_1; first | rwa [add_block] at this | exact this) GW349.out) | (rw [add_block]; exact Nat.ne_of_lt (Nat.lt_of_lt_of_le (by have := World.block_lt_of_cell? _ _ hw348_1; first | rwa [add_block] at this | exact this) GW349.out)) | (show (Addr.add _ _).block ≠ _; rw [add_block]; exact Nat.ne_of_lt (Nat.lt_of_lt_of_le (by have := World.block_lt_of_cell? _ _ hw348_1; first | rwa [add_block] at this | exact this) GW349.out)) | (dsimp only; exact Nat.ne_of_lt (Nat.lt_of_lt_of_le (by have := World.block_lt_of_cell? _ _ hw348_1; first | rwa [add_block] at this | exact this) GW349.out))) _).trans (hHeld.2.2.2.2.1)))))), ((cell_far (p := ⟨gb349, _, none⟩) (by first | exact Nat.ne_of_lt (Nat.lt_of_lt_of_le (by have := World.block_lt_of_cell? _ _ hw348_2; first | rwa [add_block] at this | exact this) GW349.out) | (rw [add_block]; exact Nat.ne_of_lt (Nat.lt_of_lt_of_le (by have := World.block_lt_of_cell? _ _ hw348_2; first | rwa [add_block] at this | exact this) GW349.out)) | (show (Addr.add _ _).block ≠ _; rw [add_block]; exact Nat.ne_of_lt (Nat.lt_of_lt_of_le (by have := World.block_lt_of_cell? _ _ hw348_2; first | rwa [add_block] at this | exact this) GW349.out)) | (dsimp only; exact Nat.ne_of_lt (Nat.lt_of_lt_of_le (by have := World.block_lt_of_cell? _ _ hw348_2; first | rwa [add_block] at this | exact this) GW349.out))) _).trans (((cell_far (p := ⟨gb349, _, none⟩) (by first | exact Nat.ne_of_lt (Nat.lt_of_lt_of_le (by have := World.block_lt_of_cell? _ _ hw348_2; first | rwa [add_block] at this | exact this) GW349.out) | (rw [add_block]; exact Nat.ne_of_lt (Nat.lt_of_lt_of_le (by have := World.block_lt_of_cell? _ _ hw348_2; first | rwa [add_block] at this | exact this) GW349.out)) | (show (Addr.add _ _).block ≠ _; rw [add_block]; exact Nat.ne_of_lt (Nat.lt_of_lt_of_le (by have := World.block_lt_of_cell? _ _ hw348_2; first | rwa [add_block] at this | exact this) GW349.out)) | (dsimp only; exact Nat.ne_of_lt (Nat.lt_of_lt_of_le (by have := World.block_lt_of_cell? _ _ hw348_2; first | rwa [add_block] at this | exact this) GW349.out))) _).trans (((cell_far (p := ⟨gb349, _, none⟩) (by first | exact Nat.ne_of_lt (Nat.lt_of_lt_of_le (by have := World.block_lt_of_cell? _ _ hw348_2; first | rwa [add_block] at this | exact this) GW349.out) | (rw [add_block]; exact Nat.ne_of_lt (Nat.lt_of_lt_of_le (by have := World.block_lt_of_cell? _ _ hw348_2; first | rwa [add_block] at this | exact this) GW349.out)) | (show (Addr.add _ _).block ≠ _; rw [add_block]; exact Nat.ne_of_lt (Nat.lt_of_lt_of_le (by have := World.block_lt_of_cell? _ _ hw348_2; first | rwa [add_block] at this | exact this) GW349.out)) | (dsimp only; exact Nat.ne_of_lt (Nat.lt_of_lt_of_le (by have := World.block_lt_of_cell? _ _ hw348_2; first | rwa [add_block] at this | exact this) GW349.out))) _).trans (hHeld.2.2.2.2.2))))))⟩ (fun hHeld => ?_)
                    clear hK K
                    refine done_ (done_of HT_.out (by kernel_rfl)) ?_
                    have hcz19_0 : w15.cell? ⟨gb349, 0, none⟩ = some (.string (⟨#[]⟩ : ByteArray)) := (blk_cell BK349.out 0).trans rfl
                    have hcz19_1 : w15.cell? ⟨gb349, 1, none⟩ = some (.bool false) := (blk_cell BK349.out 1).trans rfl
                    have hcz19_2 : w15.cell? ⟨gb349, 2, none⟩ = some (.string (⟨#[]⟩ : ByteArray)) := (blk_cell BK349.out 2).trans rfl
                    have hfz19_0 := blk_frozen BK349.out 0
                    have hfz19_1 := blk_frozen BK349.out 1
                    have hfz19_2 := blk_frozen BK349.out 2
                    try go_wp2_with (first | ((with_reducible refine gate_builtin (b := .append) (xs := #[.tmp 47, .tmp 49]) rfl ?_); at_builtin; refine Kd.R_append k101 (w0 := w) w.heap.size rfl (.tmp 47) (.tmp 49) 40 101 (.agg #[(.string ⟨#[]⟩), (.bool false), (.string ⟨#[]⟩)]) 40 rfl Tryd.underlying40 info101 rfl (by decide) (by omega) u5 x5_1 (⟨t347, true, (⟨#[]⟩ : ByteArray)⟩ : S101) [.string t347, .bool true, .string (⟨#[]⟩ : ByteArray)] (fun k_ => k_ ≠ gb349) (fun _ => False) rfl (by first | (go_simp; done) | (go_simp; rfl)) ?aP (fun _ hk => hk.elim) ?aF ?aO ?aB ?aS ?aL ?_; (case aP => exact k101_mkM _ _ _ (⟨t347, true, (⟨#[]⟩ : ByteArray)⟩ : S101)); (case aB => exact (by repeat (first | (with_reducible first | exact HB.out | apply below_alloc | apply pw_below_drewN | apply below_drew1 | refine below_set ?_ GE349.out) | exact HB.out))); (case aF => exact (fun k_ hk => Kd.freshB (g := gb349) (o := .cells #[.string t347, .bool true, .string (⟨#[]⟩ : ByteArray)] 101 (0, 0)) (by (with_reducible repeat (first | refine blk_drewN ?_ _ | refine blk_drew ?_ | refine blk_alloc ?_ _)); refine blk_put (cs := #[.string t347, .bool true, .string (⟨#[]⟩ : ByteArray)]) ?_ 2 _ rfl; (with_reducible repeat (first | refine blk_drewN ?_ _ | refine blk_drew ?_ | refine blk_alloc ?_ _)); refine blk_put (cs := #[.string t347, .bool false, .string (⟨#[]⟩ : ByteArray)]) ?_ 1 _ rfl; (with_reducible repeat (first | refine blk_drewN ?_ _ | refine blk_drew ?_ | refine blk_alloc ?_ _)); refine blk_put (cs := #[.string (⟨#[]⟩ : ByteArray), .bool false, .string (⟨#[]⟩ : ByteArray)]) ?_ 0 _ rfl; (with_reducible repeat (first | refine blk_drewN ?_ _ | refine blk_drew ?_ | refine blk_alloc ?_ _)); exact BK349.out) k_ hk)); (case aO => exact (by (with_reducible repeat (first | apply Kd.R_alloc | apply Kd.R_drewN | apply Kd.R_drew)); exact Kd.R_mono (Kd.R_far (p := ⟨gb349, 2, none⟩) (Kd.R_far (p := ⟨gb349, 1, none⟩) (Kd.R_far (p := ⟨gb349, 0, none⟩) (Kd.R_mono HO_5.out (fun k_ hk => (⟨hk, hk⟩ : _ ∧ k_ ≠ gb349))) (fun _ hk => hk.2) (.string t347)) (fun _ hk => hk.2) (.bool true)) (fun _ hk => hk.2) (.string (⟨#[]⟩ : ByteArray))) (fun _ hk => hk.1))); (case aS => exact (below_size (by repeat (first | (with_reducible first | exact HB.out | apply below_alloc | apply pw_below_drewN | apply below_drew1 | refine below_set ?_ GE349.out) | exact HB.out)))); (case aL => have := LMc11.out; omega); intro v351 w20 ho hb hg hat; rw [← Ny350.out] at ho; have n0_ := Aside0.mk (blk_grown (g := gb349) (o := .cells #[.string t347, .bool true, .string (⟨#[]⟩ : ByteArray)] 101 (0, 0)) (by (with_reducible repeat (first | refine blk_drewN ?_ _ | refine blk_drew ?_ | refine blk_alloc ?_ _)); refine blk_put (cs := #[.string t347, .bool true, .string (⟨#[]⟩ : ByteArray)]) ?_ 2 _ rfl; (with_reducible repeat (first | refine blk_drewN ?_ _ | refine blk_drew ?_ | refine blk_alloc ?_ _)); refine blk_put (cs := #[.string t347, .bool false, .string (⟨#[]⟩ : ByteArray)]) ?_ 1 _ rfl; (with_reducible repeat (first | refine blk_drewN ?_ _ | refine blk_drew ?_ | refine blk_alloc ?_ _)); refine blk_put (cs := #[.string (⟨#[]⟩ : ByteArray), .bool false, .string (⟨#[]⟩ : ByteArray)]) ?_ 0 _ rfl; (with_reducible repeat (first | refine blk_drewN ?_ _ | refine blk_drew ?_ | refine blk_alloc ?_ _)); exact BK349.out) hg (Kd.R_away HO_5.out (fun _ hk => hk))); have n1_ := Aside0.mk (hb); have n2_ := Aside0.mk (ho); clear BK349; clear HB; clear HO_5; have BK349 := n0_; have HB := n1_; have HO352 := n2_; clear n0_ n1_ n2_; clear ho hb hg hat))
                    go_roundg kj2
                    case measure => have := HK1.out; have := HJ2.out; omega
                    case rel => exact ⟨(y350), (wrap64 (x6_1 + 1)), (by first | rfl | (simp; done) | (simp [*]; done)), H', ⟨by have := HK1.out; have := HJ2.out; omega⟩, ⟨by (with_reducible repeat (first | apply Kd.R_alloc | apply Kd.R_drewN | apply Kd.R_drew)); exact Kd.R_mono HO352.out (fun _ hk => trivial)⟩, ⟨by repeat (first | (with_reducible first | exact HB.out | apply below_alloc | apply pw_below_drewN | apply below_drew1 | refine below_set ?_ GE349.out) | exact HB.out)⟩⟩
                  · rw [if_neg c11] at H
                    exact absurd H (by simp)
                · replace c10 := Bool.eq_false_iff.mpr c10
                  subst c10
                  have H1 : ((cachepothand_Val.f kj2 ((rd_T139 l0 x6_1).f2) (wrap64 (Int.tdiv ((rd_T139 l0 x6_1).f0) 12))).bind fun t355 => (if x5_1.length < 3518437208883 then (cachepothand_Writes.l0 kj2 l0 a1 (x5_1 ++ [(⟨t347, false, t355⟩ : S101)]) (wrap64 (x6_1 + 1))) else (none))) = some r := by rw [if_neg (show ¬ (false = true) by decide)] at H; exact H
                  clear H
                  have H := H1
                  clear H1
                  replace H := Option.bind_eq_some_iff.mp H
                  obtain ⟨t355, A210, H⟩ := H
                  replace H : (if x5_1.length < 3518437208883 then (cachepothand_Writes.l0 kj2 l0 a1 (x5_1 ++ [(⟨t347, false, t355⟩ : S101)]) (wrap64 (x6_1 + 1))) else (none)) = some r := H
                  have A21 := Aside0.mk A210
                  clear A210
                  by_cases c22 : x5_1.length < 3518437208883
                  · rw [if_pos c22] at H
                    have LMc22 := Aside0.mk c22
                    clear c22
                    obtain ⟨y356, hy356⟩ : ∃ y_ : List (S101), y_ = (x5_1 ++ [(⟨t347, false, t355⟩ : S101)]) := ⟨_, rfl⟩
                    replace H : (cachepothand_Writes.l0 kj2 l0 a1 y356 (wrap64 (x6_1 + 1))) = some r := by first | (rw [hy356]; with_reducible exact H) | (have H2_ := (Option.bind_some _ _).symm.trans H; rw [hy356]; with_reducible exact H2_) | (have H2_ := (Option.bind_some _ _).symm.trans H; with_reducible exact H2_) | with_reducible exact H | (rw [hy356]; exact H) | exact H
                    have Ny356 := Aside0.mk hy356
                    clear hy356
                    have H' := Aside0.mk H
                    clear H
                    try go_wp2
                    have n0_ := Aside0.mk (Kd.R_drew HO_5.out)
                    have n1_ := Aside0.mk (below_drew1 HB.out)
                    clear HO_5
                    clear HB
                    have HO_5 := n0_
                    have HB := n1_
                    clear n0_ n1_
                    have p346 : 0 ≤ (x6_1 : Int) := of_decide_eq_true (by first | (with_reducible assumption) | assumption)
                    have q346 : x6_1 < (l0.length : Int) := of_decide_eq_true (by first | (with_reducible assumption) | assumption)
                    obtain ⟨ad346, e346, hx346_0, hx346_1, hx346_2⟩ := at_T139 HR0.out x6_1 p346 q346
                    have hw346_2 := hx346_2
                    have hw346_1 := hx346_1
                    have hw346_0 := hx346_0
                    (try rw [← Nbq9.out] at hx346_1)
                    (try rw [← Nbq9.out] at hw346_1)
                    cases e346
                    replace hx346_0 := (HB.out.cell (World.block_lt_of_cell? w _ hx346_0)).trans hx346_0
                    replace hx346_1 := (HB.out.cell (World.block_lt_of_cell? w _ hx346_1)).trans hx346_1
                    replace hx346_2 := (HB.out.cell (World.block_lt_of_cell? w _ hx346_2)).trans hx346_2
                    replace p346 := eq_true p346
                    replace q346 := eq_true q346
                    have p348 : 0 ≤ (x6_1 : Int) := of_decide_eq_true (by first | (with_reducible assumption) | assumption)
                    have q348 : x6_1 < (l0.length : Int) := of_decide_eq_true (by first | (with_reducible assumption) | assumption)
                    obtain ⟨ad348, e348, hx348_0, hx348_1, hx348_2⟩ := at_T139 HR0.out x6_1 p348 q348
                    have hw348_2 := hx348_2
                    have hw348_1 := hx348_1
                    have hw348_0 := hx348_0
                    (try rw [← Nbq9.out] at hx348_1)
                    (try rw [← Nbq9.out] at hw348_1)
                    obtain rfl : ad346 = ad348 := (by injection e348)
                    replace hx348_0 := (HB.out.cell (World.block_lt_of_cell? w _ hx348_0)).trans hx348_0
                    replace hx348_1 := (HB.out.cell (World.block_lt_of_cell? w _ hx348_1)).trans hx348_1
                    replace hx348_2 := (HB.out.cell (World.block_lt_of_cell? w _ hx348_2)).trans hx348_2
                    replace p348 := eq_true p348
                    replace q348 := eq_true q348
                    refine start_ (n := 14) (S := fun w' => w'.cell? (ad346.add ((x6_1).toNat * 3)) = some (.int .i64 ((rd_T139 l0 x6_1).f0)) ∧ w'.cell? ⟨(ad346.add ((x6_1).toNat * 3)).block, (ad346.add ((x6_1).toNat * 3)).off + 1, none⟩ = some (.bool false) ∧ w'.cell? ⟨(ad346.add ((x6_1).toNat * 3)).block, (ad346.add ((x6_1).toNat * 3)).off + 2, none⟩ = some (.string ((rd_T139 l0 x6_1).f2)) ∧ w'.cell? (ad346.add ((x6_1).toNat * 3)) = some (.int .i64 ((rd_T139 l0 x6_1).f0)) ∧ w'.cell? ⟨(ad346.add ((x6_1).toNat * 3)).block, (ad346.add ((x6_1).toNat * 3)).off + 1, none⟩ = some (.bool false) ∧ w'.cell? ⟨(ad346.add ((x6_1).toNat * 3)).block, (ad346.add ((x6_1).toNat * 3)).off + 2, none⟩ = some (.string ((rd_T139 l0 x6_1).f2))) (ds := []) #[false, false, false, false, false, false, false, false, false, false, false, false, false, false] (by kernel_rfl) rfl rfl ⟨((HB.out.cell (World.block_lt_of_cell? w _ hw346_0)).trans hw346_0), ((HB.out.cell (World.block_lt_of_cell? w _ hw346_1)).trans hw346_1), ((HB.out.cell (World.block_lt_of_cell? w _ hw346_2)).trans hw346_2), ((HB.out.cell (World.block_lt_of_cell? w _ hw348_0)).trans hw348_0), ((HB.out.cell (World.block_lt_of_cell? w _ hw348_1)).trans hw348_1), ((HB.out.cell (World.block_lt_of_cell? w _ hw348_2)).trans hw348_2)⟩ (fun hHeld => ?_); refine with_tabW cachepothand_Writes.tab5 cachepothand_Writes.bits5 (fun HT_ HW_ => ?_)
                    generalize wc.drew = w23 at HO_5 HB hx346_0 hx346_1 hx346_2 hx348_0 hx348_1 hx348_2 hHeld ⊢
                    refine pure_ (i := 0) (N := some 19) (v := ?_) (a' := ?_) #[true, false, false, false, false, false, false, false, false, false, false, false, false, false] rfl rfl (any_of HT_.out (by kernel_rfl)) (fun _ _ _ h => h) (Or.inl ⟨by rfl, ?_⟩) ?_ ?_
                    rotate_left
                    · intro w'
                      go_simp
                      with_reducible rfl
                    rotate_left
                    · simp only [Act.put, List.setIfInBounds_toArray, List.set_cons_zero, List.set_cons_succ, i64_w, i32_w]
                      rfl
                    refine pure_ (i := 1) (N := some 20) (v := ?_) (a' := ?_) #[true, true, false, false, false, false, false, false, false, false, false, false, false, false] rfl rfl (any_of HT_.out (by kernel_rfl)) (fun _ _ _ h => h) (Or.inl ⟨by rfl, ?_⟩) ?_ ?_
                    rotate_left
                    · intro w'
                      go_simp
                      with_reducible rfl
                    rotate_left
                    · simp only [Act.put, List.setIfInBounds_toArray, List.set_cons_zero, List.set_cons_succ, i64_w, i32_w]
                      rfl
                    refine pure_ (i := 2) (N := some 21) (v := ?_) (a' := ?_) #[true, true, true, false, false, false, false, false, false, false, false, false, false, false] rfl rfl (any_of HT_.out (by kernel_rfl)) (fun _ _ _ h => h) (Or.inl ⟨by rfl, ?_⟩) ?_ ?_
                    rotate_left
                    · intro w'
                      go_simp
                      with_reducible rfl
                    rotate_left
                    · simp only [Act.put, List.setIfInBounds_toArray, List.set_cons_zero, List.set_cons_succ, i64_w, i32_w]
                      rfl
                    refine pure_ (i := 3) (N := some 22) (v := ?_) (a' := ?_) #[true, true, true, true, false, false, false, false, false, false, false, false, false, false] rfl rfl (any_of HT_.out (by kernel_rfl)) (fun _ _ _ h => h) (Or.inl ⟨by rfl, ?_⟩) ?_ ?_
                    rotate_left
                    · intro w'
                      go_simp
                      with_reducible rfl
                    rotate_left
                    · simp only [Act.put, List.setIfInBounds_toArray, List.set_cons_zero, List.set_cons_succ, i64_w, i32_w]
                      rfl
                    refine pure_ (i := 6) (N := some 25) (v := ?_) (a' := ?_) #[true, true, true, true, false, false, true, false, false, false, false, false, false, false] rfl rfl (any_of HT_.out (by kernel_rfl)) (fun _ _ _ h => h) (Or.inl ⟨by rfl, ?_⟩) ?_ ?_
                    rotate_left
                    · intro w'
                      go_simp
                      with_reducible rfl
                    rotate_left
                    · simp only [Act.put, List.setIfInBounds_toArray, List.set_cons_zero, List.set_cons_succ, i64_w, i32_w]
                      rfl
                    refine pure_ (i := 7) (N := some 26) (v := ?_) (a' := ?_) #[true, true, true, true, false, false, true, true, false, false, false, false, false, false] rfl rfl (any_of HT_.out (by kernel_rfl)) (fun _ _ _ h => h) (Or.inl ⟨by rfl, ?_⟩) ?_ ?_
                    rotate_left
                    · intro w'
                      go_simp
                      with_reducible rfl
                    rotate_left
                    · simp only [Act.put, List.setIfInBounds_toArray, List.set_cons_zero, List.set_cons_succ, i64_w, i32_w]
                      rfl
                    refine pure_ (i := 8) (N := some 27) (v := ?_) (a' := ?_) #[true, true, true, true, false, false, true, true, true, false, false, false, false, false] rfl rfl (any_of HT_.out (by kernel_rfl)) (fun _ _ _ h => h) (Or.inl ⟨by rfl, ?_⟩) ?_ ?_
                    rotate_left
                    · intro w'
                      go_simp
                      with_reducible rfl
                    rotate_left
                    · simp only [Act.put, List.setIfInBounds_toArray, List.set_cons_zero, List.set_cons_succ, i64_w, i32_w]
                      rfl
                    refine pure_ (i := 9) (N := some 28) (v := ?_) (a' := ?_) #[true, true, true, true, false, false, true, true, true, true, false, false, false, false] rfl rfl (any_of HT_.out (by kernel_rfl)) (fun _ _ _ h => h) (Or.inl ⟨by rfl, ?_⟩) ?_ ?_
                    rotate_left
                    · intro w'
                      go_simp
                      with_reducible rfl
                    rotate_left
                    · simp only [Act.put, List.setIfInBounds_toArray, List.set_cons_zero, List.set_cons_succ, i64_w, i32_w]
                      rfl
                    refine take_ (i := 4) (N := some 23) (v := ?_) (a' := ?_) #[true, true, true, true, true, false, true, true, true, true, false, false, false, false] rfl rfl (take_ofW HT_.out HW_.out (by kernel_rfl)) (fun _ _ _ h => h) (Or.inl ⟨by rfl, ?_⟩) hHeld ?_ ?_
                    rotate_left
                    · rintro w' ⟨s0, s1, s2, s3, s4, s5⟩
                      go_simp
                      with_reducible rfl
                    rotate_left
                    · simp only [Act.put, List.setIfInBounds_toArray, List.set_cons_zero, List.set_cons_succ, i64_w, i32_w]
                      rfl
                    refine take_ (i := 10) (N := some 29) (v := ?_) (a' := ?_) #[true, true, true, true, true, false, true, true, true, true, true, false, false, false] rfl rfl (take_ofW HT_.out HW_.out (by kernel_rfl)) (fun _ _ _ h => h) (Or.inl ⟨by rfl, ?_⟩) hHeld ?_ ?_
                    rotate_left
                    · rintro w' ⟨s0, s1, s2, s3, s4, s5⟩
                      go_simp
                      with_reducible rfl
                    rotate_left
                    · simp only [Act.put, List.setIfInBounds_toArray, List.set_cons_zero, List.set_cons_succ, i64_w, i32_w]
                      rfl
                    refine join_ (σ := Nat) 1 #[true, true, true, true, true, true, true, true, true, true, true, true, true, false] (fun s_ => [(24, .string t347), (7, .pointer (some ⟨s_, 0, none⟩)), (30, .agg #[.string t347, .bool false, .string (⟨#[]⟩ : ByteArray)])]) (fun s_ w' => (w'.cell? (ad346.add ((x6_1).toNat * 3)) = some (.int .i64 ((rd_T139 l0 x6_1).f0)) ∧ w'.cell? ⟨(ad346.add ((x6_1).toNat * 3)).block, (ad346.add ((x6_1).toNat * 3)).off + 1, none⟩ = some (.bool false) ∧ w'.cell? ⟨(ad346.add ((x6_1).toNat * 3)).block, (ad346.add ((x6_1).toNat * 3)).off + 2, none⟩ = some (.string ((rd_T139 l0 x6_1).f2)) ∧ w'.cell? (ad346.add ((x6_1).toNat * 3)) = some (.int .i64 ((rd_T139 l0 x6_1).f0)) ∧ w'.cell? ⟨(ad346.add ((x6_1).toNat * 3)).block, (ad346.add ((x6_1).toNat * 3)).off + 1, none⟩ = some (.bool false) ∧ w'.cell? ⟨(ad346.add ((x6_1).toNat * 3)).block, (ad346.add ((x6_1).toNat * 3)).off + 2, none⟩ = some (.string ((rd_T139 l0 x6_1).f2))) ∧ (Kd.R k101 101 w' w.heap.size (fun k_ => k_ ≠ s_) u5 x5_1) ∧ (w'.heap[s_]? = some (.cells #[.string (⟨#[]⟩ : ByteArray), .bool false, .string (⟨#[]⟩ : ByteArray)] 101 (0, 0))) ∧ (w.heap.size ≤ s_) ∧ (w.heap.size ≤ s_) ∧ (Below w.heap.size w w')) ?_ ?_
                    rotate_left
                    · intro hCont
                      refine two_ (i := 5) (j := 12) (Ni := some 24) (Nj := some 7) #[true, true, true, true, true, true, true, true, true, true, true, false, false, false] #[true, true, true, true, true, false, true, true, true, true, true, false, true, false] rfl rfl rfl rfl (two_of HT_.out (by kernel_rfl)) (by decide) (by decide) (fun K hK => ?_) (fun K hK => ?_)
                      · skip
                        refine goes_ Tryd.func50 (by kernel_rfl) rfl #[.int .i64 ((rd_T139 l0 x6_1).f0)] (by rfl) rfl rfl (by (try simp only [List.map_toArray, List.map_cons, List.map_nil]); first | done | rfl | (simp only [List.length_drop, List.length_take]; rfl)) ?_
                        with_reducible refine (cachepothand_Key.calls ((rd_T139 l0 x6_1).f0) t347 _ A8.out (by first | exact hT | (refine Tabs.below hT ?_; (repeat (first | (with_reducible first | exact HB.out | exact Below.refl _ _ | apply below_alloc | apply pw_below_drewN | apply below_drew1) | exact HB.out))))).mono ?_
                        rintro e w24 ⟨rfl, hb⟩
                        refine ⟨_, rfl, ?_⟩
                        have n0_ := Aside0.mk (Kd.R_below (by (with_reducible repeat (first | apply Kd.R_alloc | apply Kd.R_drewN | apply Kd.R_drew)); exact HO_5.out) hb)
                        have n1_ := Aside0.mk (below_step (by repeat (first | (with_reducible first | exact HB.out | apply below_alloc | apply pw_below_drewN | apply below_drew1) | exact HB.out)) hb)
                        clear HO_5
                        clear HB
                        have HO_5 := n0_
                        have HB := n1_
                        clear n0_ n1_
                        (try clear hb)
                        (try clear hb2)
                        (try clear hk)
                        (try clear hi)
                        refine hK.out _ _ ⟨((HB.out.cell (World.block_lt_of_cell? w _ hw346_0)).trans hw346_0), ((HB.out.cell (World.block_lt_of_cell? w _ hw346_1)).trans hw346_1), ((HB.out.cell (World.block_lt_of_cell? w _ hw346_2)).trans hw346_2), ((HB.out.cell (World.block_lt_of_cell? w _ hw348_0)).trans hw348_0), ((HB.out.cell (World.block_lt_of_cell? w _ hw348_1)).trans hw348_1), ((HB.out.cell (World.block_lt_of_cell? w _ hw348_2)).trans hw348_2)⟩ (fun hHeld => ?_)
                        clear hK K
                        refine norm_ (a' := ?_) ?_ ?_
                        rotate_left
                        · show Act.put _ (some 24) _ = _
                          simp only [Act.put, List.setIfInBounds_toArray, List.set_cons_zero, List.set_cons_succ, i64_w, i32_w]
                          rfl
                        refine pure_ (i := 11) (N := some 30) (v := ?_) (a' := ?_) #[true, true, true, true, true, true, true, true, true, true, true, true, false, false] rfl rfl (any_of HT_.out (by kernel_rfl)) (fun _ _ _ h => h) (Or.inl ⟨by rfl, ?_⟩) ?_ ?_
                        rotate_left
                        · intro w'
                          go_simp
                          with_reducible rfl
                        rotate_left
                        · simp only [Act.put, List.setIfInBounds_toArray, List.set_cons_zero, List.set_cons_succ, i64_w, i32_w]
                          rfl
                        refine one_ (i := 12) (N := some 7) #[true, true, true, true, true, true, true, true, true, true, true, true, true, false] rfl rfl (one_of HT_.out (by kernel_rfl)) (by decide) (fun K hK => ?_)
                        refine box_step ?hg (N := 7) ?hd (cs := #[.string (⟨#[]⟩ : ByteArray), .bool false, .string (⟨#[]⟩ : ByteArray)]) (t := 101) ?hr ?_; (case hd => rfl); (case hg => rfl); (case hr => first | (go_simp; done) | (go_simp; rfl))
                        intro gb349 hg w25 hbox hb
                        have n0_ := Aside0.mk (Kd.R_below (Kd.R_elderB (by (with_reducible repeat (first | apply Kd.R_alloc | apply Kd.R_drewN | apply Kd.R_drew)); exact HO_5.out) gb349 (Nat.le_of_eq hg.symm)) hb)
                        have n1_ := Aside0.mk (below_step (by repeat (first | (with_reducible first | exact HB.out | apply below_alloc | apply pw_below_drewN | apply below_drew1) | exact HB.out)) hb)
                        have n2_ := Aside0.mk (hbox)
                        have n3_ := Aside0.mk ((by rw [hg]; exact (below_size (by repeat (first | (with_reducible first | exact HB.out | apply below_alloc | apply pw_below_drewN | apply below_drew1) | exact HB.out))) : w.heap.size ≤ gb349))
                        have n4_ := Aside0.mk ((by rw [hg]; exact (below_size (by repeat (first | (with_reducible first | exact HB.out | apply below_alloc | apply pw_below_drewN | apply below_drew1) | exact HB.out))) : w.heap.size ≤ gb349))
                        clear HO_5
                        clear HB
                        have HO_5 := n0_
                        have HB := n1_
                        have BK349 := n2_
                        have GW349 := n3_
                        have GE349 := n4_
                        clear n0_ n1_ n2_ n3_ n4_
                        clear hb hbox hg
                        refine hK.out _ _ ⟨((HB.out.cell (World.block_lt_of_cell? w _ hw346_0)).trans hw346_0), ((HB.out.cell (World.block_lt_of_cell? w _ hw346_1)).trans hw346_1), ((HB.out.cell (World.block_lt_of_cell? w _ hw346_2)).trans hw346_2), ((HB.out.cell (World.block_lt_of_cell? w _ hw348_0)).trans hw348_0), ((HB.out.cell (World.block_lt_of_cell? w _ hw348_1)).trans hw348_1), ((HB.out.cell (World.block_lt_of_cell? w _ hw348_2)).trans hw348_2)⟩ (fun hHeld => ?_)
                        clear hK K
                        refine norm_ (a' := ?_) ?_ ?_
                        rotate_left
                        · show Act.put _ (some 7) _ = _
                          simp only [Act.put, List.setIfInBounds_toArray, List.set_cons_zero, List.set_cons_succ, i64_w, i32_w]
                          rfl
                        exact norm_ (by simp only [putAll, Act.put, List.setIfInBounds_toArray, List.set_cons_zero, List.set_cons_succ]) (hCont (gb349) _ ⟨hHeld, (by (with_reducible repeat (first | apply Kd.R_alloc | apply Kd.R_drewN | apply Kd.R_drew)); exact Kd.R_mono HO_5.out (fun _ hk => hk.2)), (by (with_reducible repeat (first | refine blk_drewN ?_ _ | refine blk_drew ?_ | refine blk_alloc ?_ _)); exact BK349.out), GW349.out, GE349.out, (by repeat (first | (with_reducible first | exact HB.out | apply below_alloc | apply pw_below_drewN | apply below_drew1 | refine below_set ?_ GE349.out) | exact HB.out))⟩)
                      · skip
                        refine box_step ?hg (N := 7) ?hd (cs := #[.string (⟨#[]⟩ : ByteArray), .bool false, .string (⟨#[]⟩ : ByteArray)]) (t := 101) ?hr ?_; (case hd => rfl); (case hg => rfl); (case hr => first | (go_simp; done) | (go_simp; rfl))
                        intro gb349 hg w24 hbox hb
                        have n0_ := Aside0.mk (Kd.R_below (Kd.R_elderB (by (with_reducible repeat (first | apply Kd.R_alloc | apply Kd.R_drewN | apply Kd.R_drew)); exact HO_5.out) gb349 (Nat.le_of_eq hg.symm)) hb)
                        have n1_ := Aside0.mk (below_step (by repeat (first | (with_reducible first | exact HB.out | apply below_alloc | apply pw_below_drewN | apply below_drew1) | exact HB.out)) hb)
                        have n2_ := Aside0.mk (hbox)
                        have n3_ := Aside0.mk ((by rw [hg]; exact (below_size (by repeat (first | (with_reducible first | exact HB.out | apply below_alloc | apply pw_below_drewN | apply below_drew1) | exact HB.out))) : w.heap.size ≤ gb349))
                        have n4_ := Aside0.mk ((by rw [hg]; exact (below_size (by repeat (first | (with_reducible first | exact HB.out | apply below_alloc | apply pw_below_drewN | apply below_drew1) | exact HB.out))) : w.heap.size ≤ gb349))
                        clear HO_5
                        clear HB
                        have HO_5 := n0_
                        have HB := n1_
                        have BK349 := n2_
                        have GW349 := n3_
                        have GE349 := n4_
                        clear n0_ n1_ n2_ n3_ n4_
                        clear hb hbox hg
                        refine hK.out _ _ ⟨((HB.out.cell (World.block_lt_of_cell? w _ hw346_0)).trans hw346_0), ((HB.out.cell (World.block_lt_of_cell? w _ hw346_1)).trans hw346_1), ((HB.out.cell (World.block_lt_of_cell? w _ hw346_2)).trans hw346_2), ((HB.out.cell (World.block_lt_of_cell? w _ hw348_0)).trans hw348_0), ((HB.out.cell (World.block_lt_of_cell? w _ hw348_1)).trans hw348_1), ((HB.out.cell (World.block_lt_of_cell? w _ hw348_2)).trans hw348_2)⟩ (fun hHeld => ?_)
                        clear hK K
                        refine norm_ (a' := ?_) ?_ ?_
                        rotate_left
                        · show Act.put _ (some 7) _ = _
                          simp only [Act.put, List.setIfInBounds_toArray, List.set_cons_zero, List.set_cons_succ, i64_w, i32_w]
                          rfl
                        refine one_ (i := 5) (N := some 24) #[true, true, true, true, true, true, true, true, true, true, true, false, true, false] rfl rfl (one_of HT_.out (by kernel_rfl)) (by decide) (fun K hK => ?_)
                        refine goes_ Tryd.func50 (by kernel_rfl) rfl #[.int .i64 ((rd_T139 l0 x6_1).f0)] (by rfl) rfl rfl (by (try simp only [List.map_toArray, List.map_cons, List.map_nil]); first | done | rfl | (simp only [List.length_drop, List.length_take]; rfl)) ?_
                        with_reducible refine (cachepothand_Key.calls ((rd_T139 l0 x6_1).f0) t347 _ A8.out (by first | exact hT | (refine Tabs.below hT ?_; (repeat (first | (with_reducible first | exact HB.out | exact Below.refl _ _ | apply below_alloc | apply pw_below_drewN | apply below_drew1) | exact HB.out))))).mono ?_
                        rintro e w25 ⟨rfl, hb⟩
                        refine ⟨_, rfl, ?_⟩
                        have n0_ := Aside0.mk (Kd.R_below (by (with_reducible repeat (first | apply Kd.R_alloc | apply Kd.R_drewN | apply Kd.R_drew)); exact HO_5.out) hb)
                        have n1_ := Aside0.mk (blk_below (g := gb349) (o := .cells #[.string (⟨#[]⟩ : ByteArray), .bool false, .string (⟨#[]⟩ : ByteArray)] 101 (0, 0)) (by (with_reducible repeat (first | refine blk_drewN ?_ _ | refine blk_drew ?_ | refine blk_alloc ?_ _)); exact BK349.out) hb)
                        have n2_ := Aside0.mk (below_step (by repeat (first | (with_reducible first | exact HB.out | apply below_alloc | apply pw_below_drewN | apply below_drew1 | refine below_set ?_ GE349.out) | exact HB.out)) hb)
                        clear HO_5
                        clear BK349
                        clear HB
                        have HO_5 := n0_
                        have BK349 := n1_
                        have HB := n2_
                        clear n0_ n1_ n2_
                        (try clear hb)
                        (try clear hb2)
                        (try clear hk)
                        (try clear hi)
                        refine hK.out _ _ ⟨((HB.out.cell (World.block_lt_of_cell? w _ hw346_0)).trans hw346_0), ((HB.out.cell (World.block_lt_of_cell? w _ hw346_1)).trans hw346_1), ((HB.out.cell (World.block_lt_of_cell? w _ hw346_2)).trans hw346_2), ((HB.out.cell (World.block_lt_of_cell? w _ hw348_0)).trans hw348_0), ((HB.out.cell (World.block_lt_of_cell? w _ hw348_1)).trans hw348_1), ((HB.out.cell (World.block_lt_of_cell? w _ hw348_2)).trans hw348_2)⟩ (fun hHeld => ?_)
                        clear hK K
                        refine norm_ (a' := ?_) ?_ ?_
                        rotate_left
                        · show Act.put _ (some 24) _ = _
                          simp only [Act.put, List.setIfInBounds_toArray, List.set_cons_zero, List.set_cons_succ, i64_w, i32_w]
                          rfl
                        refine pure_ (i := 11) (N := some 30) (v := ?_) (a' := ?_) #[true, true, true, true, true, true, true, true, true, true, true, true, true, false] rfl rfl (any_of HT_.out (by kernel_rfl)) (fun _ _ _ h => h) (Or.inl ⟨by rfl, ?_⟩) ?_ ?_
                        rotate_left
                        · intro w'
                          go_simp
                          with_reducible rfl
                        rotate_left
                        · simp only [Act.put, List.setIfInBounds_toArray, List.set_cons_zero, List.set_cons_succ, i64_w, i32_w]
                          rfl
                        exact norm_ (by simp only [putAll, Act.put, List.setIfInBounds_toArray, List.set_cons_zero, List.set_cons_succ]) (hCont (gb349) _ ⟨hHeld, (by (with_reducible repeat (first | apply Kd.R_alloc | apply Kd.R_drewN | apply Kd.R_drew)); exact Kd.R_mono HO_5.out (fun _ hk => hk.2)), (by (with_reducible repeat (first | refine blk_drewN ?_ _ | refine blk_drew ?_ | refine blk_alloc ?_ _)); exact BK349.out), GW349.out, GE349.out, (by repeat (first | (with_reducible first | exact HB.out | apply below_alloc | apply pw_below_drewN | apply below_drew1 | refine below_set ?_ GE349.out) | exact HB.out))⟩)
                    rintro gb349 w26 ⟨hS_, h0_, h1_, h2_, h3_, h4_⟩
                    have n0_ : Aside0 (Kd.R k101 101 w26 w.heap.size (fun k_ => k_ ≠ gb349) u5 x5_1) := ⟨h0_⟩
                    have n1_ : Aside0 (w26.heap[gb349]? = some (.cells #[.string (⟨#[]⟩ : ByteArray), .bool false, .string (⟨#[]⟩ : ByteArray)] 101 (0, 0))) := ⟨h1_⟩
                    have n2_ : Aside0 (w.heap.size ≤ gb349) := ⟨h2_⟩
                    have n3_ : Aside0 (w.heap.size ≤ gb349) := ⟨h3_⟩
                    have n4_ : Aside0 (Below w.heap.size w w26) := ⟨h4_⟩
                    clear HO_5
                    clear HB
                    clear h0_ h1_ h2_ h3_ h4_
                    have HO_5 := n0_
                    have BK349 := n1_
                    have GW349 := n2_
                    have GE349 := n3_
                    have HB := n4_
                    clear n0_ n1_ n2_ n3_ n4_
                    have hHeld : w26.cell? (ad346.add ((x6_1).toNat * 3)) = some (.int .i64 ((rd_T139 l0 x6_1).f0)) ∧ w26.cell? ⟨(ad346.add ((x6_1).toNat * 3)).block, (ad346.add ((x6_1).toNat * 3)).off + 1, none⟩ = some (.bool false) ∧ w26.cell? ⟨(ad346.add ((x6_1).toNat * 3)).block, (ad346.add ((x6_1).toNat * 3)).off + 2, none⟩ = some (.string ((rd_T139 l0 x6_1).f2)) ∧ w26.cell? (ad346.add ((x6_1).toNat * 3)) = some (.int .i64 ((rd_T139 l0 x6_1).f0)) ∧ w26.cell? ⟨(ad346.add ((x6_1).toNat * 3)).block, (ad346.add ((x6_1).toNat * 3)).off + 1, none⟩ = some (.bool false) ∧ w26.cell? ⟨(ad346.add ((x6_1).toNat * 3)).block, (ad346.add ((x6_1).toNat * 3)).off + 2, none⟩ = some (.string ((rd_T139 l0 x6_1).f2)) := hS_
                    refine norm_ (a' := ?_) ?_ ?_
                    rotate_left
                    · simp only [putAll, Act.put, List.setIfInBounds_toArray, List.set_cons_zero, List.set_cons_succ]
                      rfl
                    refine one_ (i := 13) (N := none) #[true, true, true, true, true, true, true, true, true, true, true, true, true, true] rfl rfl (one_of HT_.out (by kernel_rfl)) (by decide) (fun K hK => ?_)
                    have hs27 : w26.cell? ⟨gb349, 0, none⟩ = some (.string (⟨#[]⟩ : ByteArray)) := (blk_cell BK349.out 0).trans rfl
                    have hfs27 := blk_frozen BK349.out 0
                    have hs28 : w26.cell? ⟨gb349, 1, none⟩ = some (.bool false) := (blk_cell BK349.out 1).trans rfl
                    have hfs28 := blk_frozen BK349.out 1
                    have hs29 : w26.cell? ⟨gb349, 2, none⟩ = some (.string (⟨#[]⟩ : ByteArray)) := (blk_cell BK349.out 2).trans rfl
                    have hfs29 := blk_frozen BK349.out 2
                    refine skip_ (w1 := ?_) (by rfl) rfl ?_ ?_
                    rotate_left
                    · go_simp
                      rfl
                    refine hK.out _ _ ⟨((cell_far (p := ⟨gb349, _, none⟩) (by first | exact Nat.ne_of_lt (Nat.lt_of_lt_of_le (by have := World.block_lt_of_cell? _ _ hw346_0; first | rwa [add_block] at this | exact this) GW349.out) | (rw [add_block]; exact Nat.ne_of_lt (Nat.lt_of_lt_of_le (by have := World.block_lt_of_cell? _ _ hw346_0; first | rwa [add_block] at this | exact this) GW349.out)) | (show (Addr.add _ _).block ≠ _; rw [add_block]; exact Nat.ne_of_lt (Nat.lt_of_lt_of_le (by have := World.block_lt_of_cell? _ _ hw346_0; first | rwa [add_block] at this | exact this) GW349.out)) | (dsimp only; exact Nat.ne_of_lt (Nat.lt_of_lt_of_le (by have := World.block_lt_of_cell? _ _ hw346_0; first | rwa [add_block] at this | exact this) GW349.out))) _).trans (((cell_far (p := ⟨gb349, _, none⟩) (by first | exact Nat.ne_of_lt (Nat.lt_of_lt_of_le (by have := World.block_lt_of_cell? _ _ hw346_0; first | rwa [add_block] at this | exact this) GW349.out) | (rw [add_block]; exact Nat.ne_of_lt (Nat.lt_of_lt_of_le (by have := World.block_lt_of_cell? _ _ hw346_0; first | rwa [add_block] at this | exact this) GW349.out)) | (show (Addr.add _ _).block ≠ _; rw [add_block]; exact Nat.ne_of_lt (Nat.lt_of_lt_of_le (by have := World.block_lt_of_cell? _ _ hw346_0; first | rwa [add_block] at this | exact this) GW349.out)) | (dsimp only; exact Nat.ne_of_lt (Nat.lt_of_lt_of_le (by have := World.block_lt_of_cell? _ _ hw346_0; first | rwa [add_block] at this | exact this) GW349.out))) _).trans (((cell_far (p := ⟨gb349, _, none⟩) (by first | exact Nat.ne_of_lt (Nat.lt_of_lt_of_le (by have := World.block_lt_of_cell? _ _ hw346_0; first | rwa [add_block] at this | exact this) GW349.out) | (rw [add_block]; exact Nat.ne_of_lt (Nat.lt_of_lt_of_le (by have := World.block_lt_of_cell? _ _ hw346_0; first | rwa [add_block] at this | exact this) GW349.out)) | (show (Addr.add _ _).block ≠ _; rw [add_block]; exact Nat.ne_of_lt (Nat.lt_of_lt_of_le (by have := World.block_lt_of_cell? _ _ hw346_0; first | rwa [add_block] at this | exact this) GW349.out)) | (dsimp only; exact Nat.ne_of_lt (Nat.lt_of_lt_of_le (by have := World.block_lt_of_cell? _ _ hw346_0; first | rwa [add_block] at this | exact this) GW349.out))) _).trans (hHeld.1)))))), ((cell_far (p := ⟨gb349, _, none⟩) (by first | exact Nat.ne_of_lt (Nat.lt_of_lt_of_le (by have := World.block_lt_of_cell? _ _ hw346_1; first | rwa [add_block] at this | exact this) GW349.out) | (rw [add_block]; exact Nat.ne_of_lt (Nat.lt_of_lt_of_le (by have := World.block_lt_of_cell? _ _ hw346_1; first | rwa [add_block] at this | exact this) GW349.out)) | (show (Addr.add _ _).block ≠ _; rw [add_block]; exact Nat.ne_of_lt (Nat.lt_of_lt_of_le (by have := World.block_lt_of_cell? _ _ hw346_1; first | rwa [add_block] at this | exact this) GW349.out)) | (dsimp only; exact Nat.ne_of_lt (Nat.lt_of_lt_of_le (by have := World.block_lt_of_cell? _ _ hw346_1; first | rwa [add_block] at this | exact this) GW349.out))) _).trans (((cell_far (p := ⟨gb349, _, none⟩) (by first | exact Nat.ne_of_lt (Nat.lt_of_lt_of_le (by have := World.block_lt_of_cell? _ _ hw346_1; first | rwa [add_block] at this | exact this) GW349.out) | (rw [add_block]; exact Nat.ne_of_lt (Nat.lt_of_lt_of_le (by have := World.block_lt_of_cell? _ _ hw346_1; first | rwa [add_block] at this | exact this) GW349.out)) | (show (Addr.add _ _).block ≠ _; rw [add_block]; exact Nat.ne_of_lt (Nat.lt_of_lt_of_le (by have := World.block_lt_of_cell? _ _ hw346_1; first | rwa [add_block] at this | exact this) GW349.out)) | (dsimp only; exact Nat.ne_of_lt (Nat.lt_of_lt_of_le (by have := World.block_lt_of_cell? _ _ hw346_1; first | rwa [add_block] at this | exact this) GW349.out))) _).trans (((cell_far (p := ⟨gb349, _, none⟩) (by first | exact Nat.ne_of_lt (Nat.lt_of_lt_of_le (by have := World.block_lt_of_cell? _ _ hw346_1; first | rwa [add_block] at this | exact this) GW349.out) | (rw [add_block]; exact Nat.ne_of_lt (Nat.lt_of_lt_of_le (by have := World.block_lt_of_cell? _ _ hw346_1; first | rwa [add_block] at this | exact this) GW349.out)) | (show (Addr.add _ _).block ≠ _; rw [add_block]; exact Nat.ne_of_lt (Nat.lt_of_lt_of_le (by have := World.block_lt_of_cell? _ _ hw346_1; first | rwa [add_block] at this | exact this) GW349.out)) | (dsimp only; exact Nat.ne_of_lt (Nat.lt_of_lt_of_le (by have := World.block_lt_of_cell? _ _ hw346_1; first | rwa [add_block] at this | exact this) GW349.out))) _).trans (hHeld.2.1)))))), ((cell_far (p := ⟨gb349, _, none⟩) (by first | exact Nat.ne_of_lt (Nat.lt_of_lt_of_le (by have := World.block_lt_of_cell? _ _ hw346_2; first | rwa [add_block] at this | exact this) GW349.out) | (rw [add_block]; exact Nat.ne_of_lt (Nat.lt_of_lt_of_le (by have := World.block_lt_of_cell? _ _ hw346_2; first | rwa [add_block] at this | exact this) GW349.out)) | (show (Addr.add _ _).block ≠ _; rw [add_block]; exact Nat.ne_of_lt (Nat.lt_of_lt_of_le (by have := World.block_lt_of_cell? _ _ hw346_2; first | rwa [add_block] at this | exact this) GW349.out)) | (dsimp only; exact Nat.ne_of_lt (Nat.lt_of_lt_of_le (by have := World.block_lt_of_cell? _ _ hw346_2; first | rwa [add_block] at this | exact this) GW349.out))) _).trans (((cell_far (p := ⟨gb349, _, none⟩) (by first | exact Nat.ne_of_lt (Nat.lt_of_lt_of_le (by have := World.block_lt_of_cell? _ _ hw346_2; first | rwa [add_block] at this | exact this) GW349.out) | (rw [add_block]; exact Nat.ne_of_lt (Nat.lt_of_lt_of_le (by have := World.block_lt_of_cell? _ _ hw346_2; first | rwa [add_block] at this | exact this) GW349.out)) | (show (Addr.add _ _).block ≠ _; rw [add_block]; exact Nat.ne_of_lt (Nat.lt_of_lt_of_le (by have := World.block_lt_of_cell? _ _ hw346_2; first | rwa [add_block] at this | exact this) GW349.out)) | (dsimp only; exact Nat.ne_of_lt (Nat.lt_of_lt_of_le (by have := World.block_lt_of_cell? _ _ hw346_2; first | rwa [add_block] at this | exact this) GW349.out))) _).trans (((cell_far (p := ⟨gb349, _, none⟩) (by first | exact Nat.ne_of_lt (Nat.lt_of_lt_of_le (by have := World.block_lt_of_cell? _ _ hw346_2; first | rwa [add_block] at this | exact this) GW349.out) | (rw [add_block]; exact Nat.ne_of_lt (Nat.lt_of_lt_of_le (by have := World.block_lt_of_cell? _ _ hw346_2; first | rwa [add_block] at this | exact this) GW349.out)) | (show (Addr.add _ _).block ≠ _; rw [add_block]; exact Nat.ne_of_lt (Nat.lt_of_lt_of_le (by have := World.block_lt_of_cell? _ _ hw346_2; first | rwa [add_block] at this | exact this) GW349.out)) | (dsimp only; exact Nat.ne_of_lt (Nat.lt_of_lt_of_le (by have := World.block_lt_of_cell? _ _ hw346_2; first | rwa [add_block] at this | exact this) GW349.out))) _).trans (hHeld.2.2.1)))))), ((cell_far (p := ⟨gb349, _, none⟩) (by first | exact Nat.ne_of_lt (Nat.lt_of_lt_of_le (by have := World.block_lt_of_cell? _ _ hw348_0; first | rwa [add_block] at this | exact this) GW349.out) | (rw [add_block]; exact Nat.ne_of_lt (Nat.lt_of_lt_of_le (by have := World.block_lt_of_cell? _ _ hw348_0; first | rwa [add_block] at this | exact this) GW349.out)) | (show (Addr.add _ _).block ≠ _; rw [add_block]; exact Nat.ne_of_lt (Nat.lt_of_lt_of_le (by have := World.block_lt_of_cell? _ _ hw348_0; first | rwa [add_block] at this | exact this) GW349.out)) | (dsimp only; exact Nat.ne_of_lt (Nat.lt_of_lt_of_le (by have := World.block_lt_of_cell? _ _ hw348_0; first | rwa [add_block] at this | exact this) GW349.out))) _).trans (((cell_far (p := ⟨gb349, _, none⟩) (by first | exact Nat.ne_of_lt (Nat.lt_of_lt_of_le (by have := World.block_lt_of_cell? _ _ hw348_0; first | rwa [add_block] at this | exact this) GW349.out) | (rw [add_block]; exact Nat.ne_of_lt (Nat.lt_of_lt_of_le (by have := World.block_lt_of_cell? _ _ hw348_0; first | rwa [add_block] at this | exact this) GW349.out)) | (show (Addr.add _ _).block ≠ _; rw [add_block]; exact Nat.ne_of_lt (Nat.lt_of_lt_of_le (by have := World.block_lt_of_cell? _ _ hw348_0; first | rwa [add_block] at this | exact this) GW349.out)) | (dsimp only; exact Nat.ne_of_lt (Nat.lt_of_lt_of_le (by have := World.block_lt_of_cell? _ _ hw348_0; first | rwa [add_block] at this | exact this) GW349.out))) _).trans (((cell_far (p := ⟨gb349, _, none⟩) (by first | exact Nat.ne_of_lt (Nat.lt_of_lt_of_le (by have := World.block_lt_of_cell? _ _ hw348_0; first | rwa [add_block] at this | exact this) GW349.out) | (rw [add_block]; exact Nat.ne_of_lt (Nat.lt_of_lt_of_le (by have := World.block_lt_of_cell? _ _ hw348_0; first | rwa [add_block] at this | exact this) GW349.out)) | (show (Addr.add _ _).block ≠ _; rw [add_block]; exact Nat.ne_of_lt (Nat.lt_of_lt_of_le (by have := World.block_lt_of_cell? _ _ hw348_0; first | rwa [add_block] at this | exact this) GW349.out)) | (dsimp only; exact Nat.ne_of_lt (Nat.lt_of_lt_of_le (by have := World.block_lt_of_cell? _ _ hw348_0; first | rwa [add_block] at this | exact this) GW349.out))) _).trans (hHeld.2.2.2.1)))))), ((cell_far (p := ⟨gb349, _, none⟩) (by first | exact Nat.ne_of_lt (Nat.lt_of_lt_of_le (by have := World.block_lt_of_cell? _ _ hw348_1; first | rwa [add_block] at this | exact this) GW349.out) | (rw [add_block]; exact Nat.ne_of_lt (Nat.lt_of_lt_of_le (by have := World.block_lt_of_cell? _ _ hw348_1; first | rwa [add_block] at this | exact this) GW349.out)) | (show (Addr.add _ _).block ≠ _; rw [add_block]; exact Nat.ne_of_lt (Nat.lt_of_lt_of_le (by have := World.block_lt_of_cell? _ _ hw348_1; first | rwa [add_block] at this | exact this) GW349.out)) | (dsimp only; exact Nat.ne_of_lt (Nat.lt_of_lt_of_le (by have := World.block_lt_of_cell? _ _ hw348_1; first | rwa [add_block] at this | exact this) GW349.out))) _).trans (((cell_far (p := ⟨gb349, _, none⟩) (by first | exact Nat.ne_of_lt (Nat.lt_of_lt_of_le (by have := World.block_lt_of_cell? _ _ hw348_1; first | rwa [add_block] at this | exact this) GW349.out) | (rw [add_block]; exact Nat.ne_of_lt (Nat.lt_of_lt_of_le (by have := World.block_lt_of_cell? _ _ hw348_1; first | rwa [add_block] at this | exact this) GW349.out)) | (show (Addr.add _ _).block ≠ _; rw [add_block]; exact Nat.ne_of_lt (Nat.lt_of_lt_of_le (by have := World.block_lt_of_cell? _ _ hw348_1; first | rwa [add_block] at this | exact this) GW349.out)) | (dsimp only; exact Nat.ne_of_lt (Nat.lt_of_lt_of_le (by have := World.block_lt_of_cell? _ _ hw348_1; first | rwa [add_block] at this | exact this) GW349.out))) _).trans (((cell_far (p := ⟨gb349, _, none⟩) (by first | exact Nat.ne_of_lt (Nat.lt_of_lt_of_le (by have := World.block_lt_of_cell? _ _ hw348_1; first | rwa [add_block] at this | exact this) GW349.out) | (rw [add_block]; exact Nat.ne_of_lt (Nat.lt_of_lt_of_le (by have := World.block_lt_of_cell? _ _ hw348_1; first | rwa [add_block] at this | exact this) GW349.out)) | (show (Addr.add _ _).block ≠ _; rw [add_block]; exact Nat.ne_of_lt (Nat.lt_of_lt_of_le (by have := World.block_lt_of_cell? _ _ hw348_1; first | rwa [add_block] at this | exact this) GW349.out)) | (dsimp only; exact Nat.ne_of_lt (Nat.lt_of_lt_of_le (by have := World.block_lt_of_cell? _ _ hw348_1; first | rwa [add_block] at this | exact this) GW349.out))) _).trans (hHeld.2.2.2.2.1)))))), ((cell_far (p := ⟨gb349, _, none⟩) (by first | exact Nat.ne_of_lt (Nat.lt_of_lt_of_le (by have := World.block_lt_of_cell? _ _ hw348_2; first | rwa [add_block] at this | exact this) GW349.out) | (rw [add_block]; exact Nat.ne_of_lt (Nat.lt_of_lt_of_le (by have := World.block_lt_of_cell? _ _ hw348_2; first | rwa [add_block] at this | exact this) GW349.out)) | (show (Addr.add _ _).block ≠ _; rw [add_block]; exact Nat.ne_of_lt (Nat.lt_of_lt_of_le (by have := World.block_lt_of_cell? _ _ hw348_2; first | rwa [add_block] at this | exact this) GW349.out)) | (dsimp only; exact Nat.ne_of_lt (Nat.lt_of_lt_of_le (by have := World.block_lt_of_cell? _ _ hw348_2; first | rwa [add_block] at this | exact this) GW349.out))) _).trans (((cell_far (p := ⟨gb349, _, none⟩) (by first | exact Nat.ne_of_lt (Nat.lt_of_lt_of_le (by have := World.block_lt_of_cell? _ _ hw348_2; first | rwa [add_block] at this | exact this) GW349.out) | (rw [add_block]; exact Nat.ne_of_lt (Nat.lt_of_lt_of_le (by have := World.block_lt_of_cell? _ _ hw348_2; first | rwa [add_block] at this | exact this) GW349.out)) | (show (Addr.add _ _).block ≠ _; rw [add_block]; exact Nat.ne_of_lt (Nat.lt_of_lt_of_le (by have := World.block_lt_of_cell? _ _ hw348_2; first | rwa [add_block] at this | exact this) GW349.out)) | (dsimp only; exact Nat.ne_of_lt (Nat.lt_of_lt_of_le (by have := World.block_lt_of_cell? _ _ hw348_2; first | rwa [add_block] at this | exact this) GW349.out))) _).trans (((cell_far (p := ⟨gb349, _, none⟩) (by first | exact Nat.ne_of_lt (Nat.lt_of_lt_of_le (by have := World.block_lt_of_cell? _ _ hw348_2; first | rwa [add_block] at this | exact this) GW349.out) | (rw [add_block]; exact Nat.ne_of_lt (Nat.lt_of_lt_of_le (by have := World.block_lt_of_cell? _ _ hw348_2; first | rwa [add_block] at this | exact this) GW349.out)) | (show (Addr.add _ _).block ≠ _; rw [add_block]; exact Nat.ne_of_lt (Nat.lt_of_lt_of_le (by have := World.block_lt_of_cell? _ _ hw348_2; first | rwa [add_block] at this | exact this) GW349.out)) | (dsimp only; exact Nat.ne_of_lt (Nat.lt_of_lt_of_le (by have := World.block_lt_of_cell? _ _ hw348_2; first | rwa [add_block] at this | exact this) GW349.out))) _).trans (hHeld.2.2.2.2.2))))))⟩ (fun hHeld => ?_)
                    clear hK K
                    refine done_ (done_of HT_.out (by kernel_rfl)) ?_
                    have hcz30_0 : w26.cell? ⟨gb349, 0, none⟩ = some (.string (⟨#[]⟩ : ByteArray)) := (blk_cell BK349.out 0).trans rfl
                    have hcz30_1 : w26.cell? ⟨gb349, 1, none⟩ = some (.bool false) := (blk_cell BK349.out 1).trans rfl
                    have hcz30_2 : w26.cell? ⟨gb349, 2, none⟩ = some (.string (⟨#[]⟩ : ByteArray)) := (blk_cell BK349.out 2).trans rfl
                    have hfz30_0 := blk_frozen BK349.out 0
                    have hfz30_1 := blk_frozen BK349.out 1
                    have hfz30_2 := blk_frozen BK349.out 2
                    try go_wp2
                    have n0_ : Aside0 (Kd.R k101 101 (((w26.setCell ⟨gb349, 0, none⟩ (.string t347)).setCell ⟨gb349, 1, none⟩ (.bool false)).setCell ⟨gb349, 2, none⟩ (.string (⟨#[]⟩ : ByteArray))) w.heap.size (fun k_ => k_ ≠ gb349) u5 x5_1) := ⟨by (with_reducible repeat (first | apply Kd.R_alloc | apply Kd.R_drewN | apply Kd.R_drew)); exact Kd.R_mono (Kd.R_far (p := ⟨gb349, 2, none⟩) (Kd.R_far (p := ⟨gb349, 1, none⟩) (Kd.R_far (p := ⟨gb349, 0, none⟩) (Kd.R_mono HO_5.out (fun k_ hk => (⟨hk, hk⟩ : _ ∧ k_ ≠ gb349))) (fun _ hk => hk.2) (.string t347)) (fun _ hk => hk.2) (.bool false)) (fun _ hk => hk.2) (.string (⟨#[]⟩ : ByteArray))) (fun _ hk => hk.1)⟩
                    have n1_ : Aside0 ((((w26.setCell ⟨gb349, 0, none⟩ (.string t347)).setCell ⟨gb349, 1, none⟩ (.bool false)).setCell ⟨gb349, 2, none⟩ (.string (⟨#[]⟩ : ByteArray))).heap[gb349]? = some (.cells #[.string t347, .bool false, .string (⟨#[]⟩ : ByteArray)] 101 (0, 0))) := ⟨by (with_reducible repeat (first | refine blk_drewN ?_ _ | refine blk_drew ?_ | refine blk_alloc ?_ _)); refine blk_put (cs := #[.string t347, .bool false, .string (⟨#[]⟩ : ByteArray)]) ?_ 2 _ rfl; (with_reducible repeat (first | refine blk_drewN ?_ _ | refine blk_drew ?_ | refine blk_alloc ?_ _)); refine blk_put (cs := #[.string t347, .bool false, .string (⟨#[]⟩ : ByteArray)]) ?_ 1 _ rfl; (with_reducible repeat (first | refine blk_drewN ?_ _ | refine blk_drew ?_ | refine blk_alloc ?_ _)); refine blk_put (cs := #[.string (⟨#[]⟩ : ByteArray), .bool false, .string (⟨#[]⟩ : ByteArray)]) ?_ 0 _ rfl; (with_reducible repeat (first | refine blk_drewN ?_ _ | refine blk_drew ?_ | refine blk_alloc ?_ _)); exact BK349.out⟩
                    have n2_ : Aside0 (Below w.heap.size w (((w26.setCell ⟨gb349, 0, none⟩ (.string t347)).setCell ⟨gb349, 1, none⟩ (.bool false)).setCell ⟨gb349, 2, none⟩ (.string (⟨#[]⟩ : ByteArray)))) := ⟨by repeat (first | (with_reducible first | exact HB.out | apply below_alloc | apply pw_below_drewN | apply below_drew1 | refine below_set ?_ GE349.out) | exact HB.out)⟩
                    (try clear HO_5)
                    (try clear BK349)
                    (try clear HB)
                    generalize (((w26.setCell ⟨gb349, 0, none⟩ (.string t347)).setCell ⟨gb349, 1, none⟩ (.bool false)).setCell ⟨gb349, 2, none⟩ (.string (⟨#[]⟩ : ByteArray))) = w31 at n0_ n1_ n2_ ⊢
                    have HO_5 := n0_
                    have BK349 := n1_
                    have HB := n2_
                    clear n0_ n1_ n2_
                    have n0_ := Aside0.mk (Kd.R_drew HO_5.out)
                    have n1_ := Aside0.mk (blk_drew BK349.out)
                    have n2_ := Aside0.mk (below_drew1 HB.out)
                    clear HO_5
                    clear BK349
                    clear HB
                    have HO_5 := n0_
                    have BK349 := n1_
                    have HB := n2_
                    clear n0_ n1_ n2_
                    have p353 : 0 ≤ (x6_1 : Int) := of_decide_eq_true (by first | (with_reducible assumption) | assumption)
                    have q353 : x6_1 < (l0.length : Int) := of_decide_eq_true (by first | (with_reducible assumption) | assumption)
                    obtain ⟨ad353, e353, hx353_0, hx353_1, hx353_2⟩ := at_T139 HR0.out x6_1 p353 q353
                    have hw353_2 := hx353_2
                    have hw353_1 := hx353_1
                    have hw353_0 := hx353_0
                    (try rw [← Nbq9.out] at hx353_1)
                    (try rw [← Nbq9.out] at hw353_1)
                    obtain rfl : ad346 = ad353 := (by injection e353)
                    replace hx353_0 := (HB.out.cell (World.block_lt_of_cell? w _ hx353_0)).trans hx353_0
                    replace hx353_1 := (HB.out.cell (World.block_lt_of_cell? w _ hx353_1)).trans hx353_1
                    replace hx353_2 := (HB.out.cell (World.block_lt_of_cell? w _ hx353_2)).trans hx353_2
                    replace p353 := eq_true p353
                    replace q353 := eq_true q353
                    have p354 : 0 ≤ (x6_1 : Int) := of_decide_eq_true (by first | (with_reducible assumption) | assumption)
                    have q354 : x6_1 < (l0.length : Int) := of_decide_eq_true (by first | (with_reducible assumption) | assumption)
                    obtain ⟨ad354, e354, hx354_0, hx354_1, hx354_2⟩ := at_T139 HR0.out x6_1 p354 q354
                    have hw354_2 := hx354_2
                    have hw354_1 := hx354_1
                    have hw354_0 := hx354_0
                    (try rw [← Nbq9.out] at hx354_1)
                    (try rw [← Nbq9.out] at hw354_1)
                    obtain rfl : ad346 = ad354 := (by injection e354)
                    replace hx354_0 := (HB.out.cell (World.block_lt_of_cell? w _ hx354_0)).trans hx354_0
                    replace hx354_1 := (HB.out.cell (World.block_lt_of_cell? w _ hx354_1)).trans hx354_1
                    replace hx354_2 := (HB.out.cell (World.block_lt_of_cell? w _ hx354_2)).trans hx354_2
                    replace p354 := eq_true p354
                    replace q354 := eq_true q354
                    refine start_ (n := 14) (S := fun w' => w'.cell? (ad346.add ((x6_1).toNat * 3)) = some (.int .i64 ((rd_T139 l0 x6_1).f0)) ∧ w'.cell? ⟨(ad346.add ((x6_1).toNat * 3)).block, (ad346.add ((x6_1).toNat * 3)).off + 1, none⟩ = some (.bool (false)) ∧ w'.cell? ⟨(ad346.add ((x6_1).toNat * 3)).block, (ad346.add ((x6_1).toNat * 3)).off + 2, none⟩ = some (.string ((rd_T139 l0 x6_1).f2)) ∧ w'.cell? (ad346.add ((x6_1).toNat * 3)) = some (.int .i64 ((rd_T139 l0 x6_1).f0)) ∧ w'.cell? ⟨(ad346.add ((x6_1).toNat * 3)).block, (ad346.add ((x6_1).toNat * 3)).off + 1, none⟩ = some (.bool (false)) ∧ w'.cell? ⟨(ad346.add ((x6_1).toNat * 3)).block, (ad346.add ((x6_1).toNat * 3)).off + 2, none⟩ = some (.string ((rd_T139 l0 x6_1).f2))) (ds := []) #[false, false, false, false, false, false, false, false, false, false, false, false, false, false] (by kernel_rfl) rfl rfl ⟨((HB.out.cell (World.block_lt_of_cell? w _ hw353_0)).trans hw353_0), ((HB.out.cell (World.block_lt_of_cell? w _ hw353_1)).trans hw353_1), ((HB.out.cell (World.block_lt_of_cell? w _ hw353_2)).trans hw353_2), ((HB.out.cell (World.block_lt_of_cell? w _ hw354_0)).trans hw354_0), ((HB.out.cell (World.block_lt_of_cell? w _ hw354_1)).trans hw354_1), ((HB.out.cell (World.block_lt_of_cell? w _ hw354_2)).trans hw354_2)⟩ (fun hHeld => ?_); refine with_tabW cachepothand_Writes.tab7 cachepothand_Writes.bits7 (fun HT_ HW_ => ?_)
                    generalize w31.drew = w32 at HO_5 BK349 HB hx353_0 hx353_1 hx353_2 hx354_0 hx354_1 hx354_2 hHeld ⊢
                    refine pure_ (i := 0) (N := some 34) (v := ?_) (a' := ?_) #[true, false, false, false, false, false, false, false, false, false, false, false, false, false] rfl rfl (any_of HT_.out (by kernel_rfl)) (fun _ _ _ h => h) (Or.inl ⟨by rfl, ?_⟩) ?_ ?_
                    rotate_left
                    · intro w'
                      go_simp
                      with_reducible rfl
                    rotate_left
                    · simp only [Act.put, List.setIfInBounds_toArray, List.set_cons_zero, List.set_cons_succ, i64_w, i32_w]
                      rfl
                    refine pure_ (i := 1) (N := some 35) (v := ?_) (a' := ?_) #[true, true, false, false, false, false, false, false, false, false, false, false, false, false] rfl rfl (any_of HT_.out (by kernel_rfl)) (fun _ _ _ h => h) (Or.inl ⟨by rfl, ?_⟩) ?_ ?_
                    rotate_left
                    · intro w'
                      go_simp
                      with_reducible rfl
                    rotate_left
                    · simp only [Act.put, List.setIfInBounds_toArray, List.set_cons_zero, List.set_cons_succ, i64_w, i32_w]
                      rfl
                    refine pure_ (i := 2) (N := some 36) (v := ?_) (a' := ?_) #[true, true, true, false, false, false, false, false, false, false, false, false, false, false] rfl rfl (any_of HT_.out (by kernel_rfl)) (fun _ _ _ h => h) (Or.inl ⟨by rfl, ?_⟩) ?_ ?_
                    rotate_left
                    · intro w'
                      go_simp
                      with_reducible rfl
                    rotate_left
                    · simp only [Act.put, List.setIfInBounds_toArray, List.set_cons_zero, List.set_cons_succ, i64_w, i32_w]
                      rfl
                    refine pure_ (i := 3) (N := some 37) (v := ?_) (a' := ?_) #[true, true, true, true, false, false, false, false, false, false, false, false, false, false] rfl rfl (any_of HT_.out (by kernel_rfl)) (fun _ _ _ h => h) (Or.inl ⟨by rfl, ?_⟩) ?_ ?_
                    rotate_left
                    · intro w'
                      go_simp
                      with_reducible rfl
                    rotate_left
                    · simp only [Act.put, List.setIfInBounds_toArray, List.set_cons_zero, List.set_cons_succ, i64_w, i32_w]
                      rfl
                    refine pure_ (i := 5) (N := some 39) (v := ?_) (a' := ?_) #[true, true, true, true, false, true, false, false, false, false, false, false, false, false] rfl rfl (any_of HT_.out (by kernel_rfl)) (fun _ _ _ h => h) (Or.inl ⟨by rfl, ?_⟩) ?_ ?_
                    rotate_left
                    · intro w'
                      go_simp
                      with_reducible rfl
                    rotate_left
                    · simp only [Act.put, List.setIfInBounds_toArray, List.set_cons_zero, List.set_cons_succ, i64_w, i32_w]
                      rfl
                    refine pure_ (i := 6) (N := some 40) (v := ?_) (a' := ?_) #[true, true, true, true, false, true, true, false, false, false, false, false, false, false] rfl rfl (any_of HT_.out (by kernel_rfl)) (fun _ _ _ h => h) (Or.inl ⟨by rfl, ?_⟩) ?_ ?_
                    rotate_left
                    · intro w'
                      go_simp
                      with_reducible rfl
                    rotate_left
                    · simp only [Act.put, List.setIfInBounds_toArray, List.set_cons_zero, List.set_cons_succ, i64_w, i32_w]
                      rfl
                    refine pure_ (i := 7) (N := some 41) (v := ?_) (a' := ?_) #[true, true, true, true, false, true, true, true, false, false, false, false, false, false] rfl rfl (any_of HT_.out (by kernel_rfl)) (fun _ _ _ h => h) (Or.inl ⟨by rfl, ?_⟩) ?_ ?_
                    rotate_left
                    · intro w'
                      go_simp
                      with_reducible rfl
                    rotate_left
                    · simp only [Act.put, List.setIfInBounds_toArray, List.set_cons_zero, List.set_cons_succ, i64_w, i32_w]
                      rfl
                    refine pure_ (i := 8) (N := some 42) (v := ?_) (a' := ?_) #[true, true, true, true, false, true, true, true, true, false, false, false, false, false] rfl rfl (any_of HT_.out (by kernel_rfl)) (fun _ _ _ h => h) (Or.inl ⟨by rfl, ?_⟩) ?_ ?_
                    rotate_left
                    · intro w'
                      go_simp
                      with_reducible rfl
                    rotate_left
                    · simp only [Act.put, List.setIfInBounds_toArray, List.set_cons_zero, List.set_cons_succ, i64_w, i32_w]
                      rfl
                    refine take_ (i := 4) (N := some 38) (v := ?_) (a' := ?_) #[true, true, true, true, true, true, true, true, true, false, false, false, false, false] rfl rfl (take_ofW HT_.out HW_.out (by kernel_rfl)) (fun _ _ _ h => h) (Or.inl ⟨by rfl, ?_⟩) hHeld ?_ ?_
                    rotate_left
                    · rintro w' ⟨s0, s1, s2, s3, s4, s5⟩
                      go_simp
                      with_reducible rfl
                    rotate_left
                    · simp only [Act.put, List.setIfInBounds_toArray, List.set_cons_zero, List.set_cons_succ, i64_w, i32_w]
                      rfl
                    refine take_ (i := 9) (N := some 43) (v := ?_) (a' := ?_) #[true, true, true, true, true, true, true, true, true, true, false, false, false, false] rfl rfl (take_ofW HT_.out HW_.out (by kernel_rfl)) (fun _ _ _ h => h) (Or.inl ⟨by rfl, ?_⟩) hHeld ?_ ?_
                    rotate_left
                    · rintro w' ⟨s0, s1, s2, s3, s4, s5⟩
                      go_simp
                      with_reducible rfl
                    rotate_left
                    · simp only [Act.put, List.setIfInBounds_toArray, List.set_cons_zero, List.set_cons_succ, i64_w, i32_w]
                      rfl
                    refine pure_ (i := 10) (N := some 44) (v := ?_) (a' := ?_) #[true, true, true, true, true, true, true, true, true, true, true, false, false, false] rfl rfl (any_of HT_.out (by kernel_rfl)) (fun _ _ _ h => h) (Or.inl ⟨by rfl, ?_⟩) ?_ ?_
                    rotate_left
                    · intro w'
                      go_simp
                      with_reducible rfl
                    rotate_left
                    · simp only [Act.put, List.setIfInBounds_toArray, List.set_cons_zero, List.set_cons_succ, i64_w, i32_w]
                      rfl
                    refine one_ (i := 11) (N := some 45) #[true, true, true, true, true, true, true, true, true, true, true, true, false, false] rfl rfl (one_of HT_.out (by kernel_rfl)) (by decide) (fun K hK => ?_)
                    refine goes_ Tryd.func100 (by kernel_rfl) rfl #[.string ((rd_T139 l0 x6_1).f2), .int .i64 (wrap64 (Int.tdiv ((rd_T139 l0 x6_1).f0) 12))] (by rfl) rfl rfl (by (try simp only [List.map_toArray, List.map_cons, List.map_nil]); first | done | rfl | (simp only [List.length_drop, List.length_take]; rfl)) ?_
                    with_reducible refine (cachepothand_Val.calls kj2 ((rd_T139 l0 x6_1).f2) (wrap64 (Int.tdiv ((rd_T139 l0 x6_1).f0) 12)) t355 _ A21.out).mono ?_
                    rintro e w33 ⟨rfl, hb⟩
                    refine ⟨_, rfl, ?_⟩
                    have n0_ := Aside0.mk (Kd.R_below (by (with_reducible repeat (first | apply Kd.R_alloc | apply Kd.R_drewN | apply Kd.R_drew)); exact HO_5.out) hb)
                    have n1_ := Aside0.mk (blk_below (g := gb349) (o := .cells #[.string t347, .bool false, .string (⟨#[]⟩ : ByteArray)] 101 (0, 0)) (by (with_reducible repeat (first | refine blk_drewN ?_ _ | refine blk_drew ?_ | refine blk_alloc ?_ _)); exact BK349.out) hb)
                    have n2_ := Aside0.mk (below_step (by repeat (first | (with_reducible first | exact HB.out | apply below_alloc | apply pw_below_drewN | apply below_drew1 | refine below_set ?_ GE349.out) | exact HB.out)) hb)
                    clear HO_5
                    clear BK349
                    clear HB
                    have HO_5 := n0_
                    have BK349 := n1_
                    have HB := n2_
                    clear n0_ n1_ n2_
                    (try clear hb)
                    (try clear hb2)
                    (try clear hk)
                    (try clear hi)
                    refine hK.out _ _ ⟨((HB.out.cell (World.block_lt_of_cell? w _ hw353_0)).trans hw353_0), ((HB.out.cell (World.block_lt_of_cell? w _ hw353_1)).trans hw353_1), ((HB.out.cell (World.block_lt_of_cell? w _ hw353_2)).trans hw353_2), ((HB.out.cell (World.block_lt_of_cell? w _ hw354_0)).trans hw354_0), ((HB.out.cell (World.block_lt_of_cell? w _ hw354_1)).trans hw354_1), ((HB.out.cell (World.block_lt_of_cell? w _ hw354_2)).trans hw354_2)⟩ (fun hHeld => ?_)
                    clear hK K
                    refine norm_ (a' := ?_) ?_ ?_
                    rotate_left
                    · show Act.put _ (some 45) _ = _
                      simp only [Act.put, List.setIfInBounds_toArray, List.set_cons_zero, List.set_cons_succ, i64_w, i32_w]
                      rfl
                    refine pure_ (i := 12) (N := some 46) (v := ?_) (a' := ?_) #[true, true, true, true, true, true, true, true, true, true, true, true, true, false] rfl rfl (any_of HT_.out (by kernel_rfl)) (fun _ _ _ h => h) (Or.inl ⟨by rfl, ?_⟩) ?_ ?_
                    rotate_left
                    · intro w'
                      go_simp
                      with_reducible rfl
                    rotate_left
                    · simp only [Act.put, List.setIfInBounds_toArray, List.set_cons_zero, List.set_cons_succ, i64_w, i32_w]
                      rfl
                    refine one_ (i := 13) (N := none) #[true, true, true, true, true, true, true, true, true, true, true, true, true, true] rfl rfl (one_of HT_.out (by kernel_rfl)) (by decide) (fun K hK => ?_)
                    have hs34 : w33.cell? ⟨gb349, 2, none⟩ = some (.string (⟨#[]⟩ : ByteArray)) := (blk_cell BK349.out 2).trans rfl
                    have hfs34 := blk_frozen BK349.out 2
                    refine skip_ (w1 := ?_) (by rfl) rfl ?_ ?_
                    rotate_left
                    · go_simp
                      rfl
                    refine hK.out _ _ ⟨((cell_far (p := ⟨gb349, _, none⟩) (by first | exact Nat.ne_of_lt (Nat.lt_of_lt_of_le (by have := World.block_lt_of_cell? _ _ hw353_0; first | rwa [add_block] at this | exact this) GW349.out) | (rw [add_block]; exact Nat.ne_of_lt (Nat.lt_of_lt_of_le (by have := World.block_lt_of_cell? _ _ hw353_0; first | rwa [add_block] at this | exact this) GW349.out)) | (show (Addr.add _ _).block ≠ _; rw [add_block]; exact Nat.ne_of_lt (Nat.lt_of_lt_of_le (by have := World.block_lt_of_cell? _ _ hw353_0; first | rwa [add_block] at this | exact this) GW349.out)) | (dsimp only; exact Nat.ne_of_lt (Nat.lt_of_lt_of_le (by have := World.block_lt_of_cell? _ _ hw353_0; first | rwa [add_block] at this | exact this) GW349.out))) _).trans (hHeld.1)), ((cell_far (p := ⟨gb349, _, none⟩) (by first | exact Nat.ne_of_lt (Nat.lt_of_lt_of_le (by have := World.block_lt_of_cell? _ _ hw353_1; first | rwa [add_block] at this | exact this) GW349.out) | (rw [add_block]; exact Nat.ne_of_lt (Nat.lt_of_lt_of_le (by have := World.block_lt_of_cell? _ _ hw353_1; first | rwa [add_block] at this | exact this) GW349.out)) | (show (Addr.add _ _).block ≠ _; rw [add_block]; exact Nat.ne_of_lt (Nat.lt_of_lt_of_le (by have := World.block_lt_of_cell? _ _ hw353_1; first | rwa [add_block] at this | exact this) GW349.out)) | (dsimp only; exact Nat.ne_of_lt (Nat.lt_of_lt_of_le (by have := World.block_lt_of_cell? _ _ hw353_1; first | rwa [add_block] at this | exact this) GW349.out))) _).trans (hHeld.2.1)), ((cell_far (p := ⟨gb349, _, none⟩) (by first | exact Nat.ne_of_lt (Nat.lt_of_lt_of_le (by have := World.block_lt_of_cell? _ _ hw353_2; first | rwa [add_block] at this | exact this) GW349.out) | (rw [add_block]; exact Nat.ne_of_lt (Nat.lt_of_lt_of_le (by have := World.block_lt_of_cell? _ _ hw353_2; first | rwa [add_block] at this | exact this) GW349.out)) | (show (Addr.add _ _).block ≠ _; rw [add_block]; exact Nat.ne_of_lt (Nat.lt_of_lt_of_le (by have := World.block_lt_of_cell? _ _ hw353_2; first | rwa [add_block] at this | exact this) GW349.out)) | (dsimp only; exact Nat.ne_of_lt (Nat.lt_of_lt_of_le (by have := World.block_lt_of_cell? _ _ hw353_2; first | rwa [add_block] at this | exact this) GW349.out))) _).trans (hHeld.2.2.1)), ((cell_far (p := ⟨gb349, _, none⟩) (by first | exact Nat.ne_of_lt (Nat.lt_of_lt_of_le (by have := World.block_lt_of_cell? _ _ hw354_0; first | rwa [add_block] at this | exact this) GW349.out) | (rw [add_block]; exact Nat.ne_of_lt (Nat.lt_of_lt_of_le (by have := World.block_lt_of_cell? _ _ hw354_0; first | rwa [add_block] at this | exact this) GW349.out)) | (show (Addr.add _ _).block ≠ _; rw [add_block]; exact Nat.ne_of_lt (Nat.lt_of_lt_of_le (by have := World.block_lt_of_cell? _ _ hw354_0; first | rwa [add_block] at this | exact this) GW349.out)) | (dsimp only; exact Nat.ne_of_lt (Nat.lt_of_lt_of_le (by have := World.block_lt_of_cell? _ _ hw354_0; first | rwa [add_block] at this | exact this) GW349.out))) _).trans (hHeld.2.2.2.1)), ((cell_far (p := ⟨gb349, _, none⟩) (by first | exact Nat.ne_of_lt (Nat.lt_of_lt_of_le (by have := World.block_lt_of_cell? _ _ hw354_1; first | rwa [add_block] at this | exact this) GW349.out) | (rw [add_block]; exact Nat.ne_of_lt (Nat.lt_of_lt_of_le (by have := World.block_lt_of_cell? _ _ hw354_1; first | rwa [add_block] at this | exact this) GW349.out)) | (show (Addr.add _ _).block ≠ _; rw [add_block]; exact Nat.ne_of_lt (Nat.lt_of_lt_of_le (by have := World.block_lt_of_cell? _ _ hw354_1; first | rwa [add_block] at this | exact this) GW349.out)) | (dsimp only; exact Nat.ne_of_lt (Nat.lt_of_lt_of_le (by have := World.block_lt_of_cell? _ _ hw354_1; first | rwa [add_block] at this | exact this) GW349.out))) _).trans (hHeld.2.2.2.2.1)), ((cell_far (p := ⟨gb349, _, none⟩) (by first | exact Nat.ne_of_lt (Nat.lt_of_lt_of_le (by have := World.block_lt_of_cell? _ _ hw354_2; first | rwa [add_block] at this | exact this) GW349.out) | (rw [add_block]; exact Nat.ne_of_lt (Nat.lt_of_lt_of_le (by have := World.block_lt_of_cell? _ _ hw354_2; first | rwa [add_block] at this | exact this) GW349.out)) | (show (Addr.add _ _).block ≠ _; rw [add_block]; exact Nat.ne_of_lt (Nat.lt_of_lt_of_le (by have := World.block_lt_of_cell? _ _ hw354_2; first | rwa [add_block] at this | exact this) GW349.out)) | (dsimp only; exact Nat.ne_of_lt (Nat.lt_of_lt_of_le (by have := World.block_lt_of_cell? _ _ hw354_2; first | rwa [add_block] at this | exact this) GW349.out))) _).trans (hHeld.2.2.2.2.2))⟩ (fun hHeld => ?_)
                    clear hK K
                    refine done_ (done_of HT_.out (by kernel_rfl)) ?_
                    have hcz35_0 : w33.cell? ⟨gb349, 0, none⟩ = some (.string t347) := (blk_cell BK349.out 0).trans rfl
                    have hcz35_1 : w33.cell? ⟨gb349, 1, none⟩ = some (.bool false) := (blk_cell BK349.out 1).trans rfl
                    have hcz35_2 : w33.cell? ⟨gb349, 2, none⟩ = some (.string (⟨#[]⟩ : ByteArray)) := (blk_cell BK349.out 2).trans rfl
                    have hfz35_0 := blk_frozen BK349.out 0
                    have hfz35_1 := blk_frozen BK349.out 1
                    have hfz35_2 := blk_frozen BK349.out 2
                    try go_wp2_with (first | ((with_reducible refine gate_builtin (b := .append) (xs := #[.tmp 47, .tmp 49]) rfl ?_); at_builtin; refine Kd.R_append k101 (w0 := w) w.heap.size rfl (.tmp 47) (.tmp 49) 40 101 (.agg #[(.string ⟨#[]⟩), (.bool false), (.string ⟨#[]⟩)]) 40 rfl Tryd.underlying40 info101 rfl (by decide) (by omega) u5 x5_1 (⟨t347, false, t355⟩ : S101) [.string t347, .bool false, .string t355] (fun k_ => k_ ≠ gb349) (fun _ => False) rfl (by first | (go_simp; done) | (go_simp; rfl)) ?aP (fun _ hk => hk.elim) ?aF ?aO ?aB ?aS ?aL ?_; (case aP => exact k101_mkM _ _ _ (⟨t347, false, t355⟩ : S101)); (case aB => exact (by repeat (first | (with_reducible first | exact HB.out | apply below_alloc | apply pw_below_drewN | apply below_drew1 | refine below_set ?_ GE349.out) | exact HB.out))); (case aF => exact (fun k_ hk => Kd.freshB (g := gb349) (o := .cells #[.string t347, .bool false, .string t355] 101 (0, 0)) (by (with_reducible repeat (first | refine blk_drewN ?_ _ | refine blk_drew ?_ | refine blk_alloc ?_ _)); refine blk_put (cs := #[.string t347, .bool false, .string (⟨#[]⟩ : ByteArray)]) ?_ 2 _ rfl; (with_reducible repeat (first | refine blk_drewN ?_ _ | refine blk_drew ?_ | refine blk_alloc ?_ _)); exact BK349.out) k_ hk)); (case aO => exact (by (with_reducible repeat (first | apply Kd.R_alloc | apply Kd.R_drewN | apply Kd.R_drew)); exact Kd.R_mono (Kd.R_far (p := ⟨gb349, 2, none⟩) (Kd.R_mono HO_5.out (fun k_ hk => (⟨hk, hk⟩ : _ ∧ k_ ≠ gb349))) (fun _ hk => hk.2) (.string t355)) (fun _ hk => hk.1))); (case aS => exact (below_size (by repeat (first | (with_reducible first | exact HB.out | apply below_alloc | apply pw_below_drewN | apply below_drew1 | refine below_set ?_ GE349.out) | exact HB.out)))); (case aL => have := LMc22.out; omega); intro v357 w36 ho hb hg hat; rw [← Ny356.out] at ho; have n0_ := Aside0.mk (blk_grown (g := gb349) (o := .cells #[.string t347, .bool false, .string t355] 101 (0, 0)) (by (with_reducible repeat (first | refine blk_drewN ?_ _ | refine blk_drew ?_ | refine blk_alloc ?_ _)); refine blk_put (cs := #[.string t347, .bool false, .string (⟨#[]⟩ : ByteArray)]) ?_ 2 _ rfl; (with_reducible repeat (first | refine blk_drewN ?_ _ | refine blk_drew ?_ | refine blk_alloc ?_ _)); exact BK349.out) hg (Kd.R_away HO_5.out (fun _ hk => hk))); have n1_ := Aside0.mk (hb); have n2_ := Aside0.mk (ho); clear BK349; clear HB; clear HO_5; have BK349 := n0_; have HB := n1_; have HO358 := n2_; clear n0_ n1_ n2_; clear ho hb hg hat))
                    go_roundg kj2
                    case measure => have := HK1.out; have := HJ2.out; omega
                    case rel => exact ⟨(y356), (wrap64 (x6_1 + 1)), (by first | rfl | (simp; done) | (simp [*]; done)), H', ⟨by have := HK1.out; have := HJ2.out; omega⟩, ⟨by (with_reducible repeat (first | apply Kd.R_alloc | apply Kd.R_drewN | apply Kd.R_drew)); exact Kd.R_mono HO358.out (fun _ hk => trivial)⟩, ⟨by repeat (first | (with_reducible first | exact HB.out | apply below_alloc | apply pw_below_drewN | apply below_drew1 | refine below_set ?_ GE349.out) | exact HB.out)⟩⟩
                  · rw [if_neg c22] at H
                    exact absurd H (by simp)
              · rw [if_neg c7] at H
                exact absurd H (by simp)
            · rw [if_neg c6] at H
              exact absurd H (by simp)
          · replace c5 := Bool.eq_false_iff.mpr c5
            subst c5
            have H1 : (if (x5_1.length : Int) = 0 then ((cachepotref1_BatchMake.f kj2 (([(⟨(⟨#[97]⟩ : ByteArray), false, (⟨#[49]⟩ : ByteArray)⟩ : S101)] : List (S101)))).bind fun t340 => (some t340)) else ((cachepotref1_BatchMake.f kj2 x5_1).bind fun t343 => (some t343))) = some r := by rw [if_neg (show ¬ (false = true) by decide)] at H; exact H
            clear H
            have H := H1
            clear H1
            by_cases c37 : (x5_1.length : Int) = 0
            · rw [if_pos c37] at H
              have c37b0 : ((x5_1.length : Int) == 0) = true := beq_iff_eq.mpr c37
              have c37b1 : ((x5_1.length : Int) != 0) = false := bne_eq_false_iff_eq.mpr c37
              clear c37
              obtain ⟨y337, hy337⟩ : ∃ y_ : List (S101), y_ = (([(⟨(⟨#[97]⟩ : ByteArray), false, (⟨#[49]⟩ : ByteArray)⟩ : S101)] : List (S101))) := ⟨_, rfl⟩
              replace H : ((cachepotref1_BatchMake.f kj2 y337).bind fun t340 => (some t340)) = some r := by first | (rw [hy337]; with_reducible exact H) | (have H2_ := (Option.bind_some _ _).symm.trans H; rw [hy337]; with_reducible exact H2_) | (have H2_ := (Option.bind_some _ _).symm.trans H; with_reducible exact H2_) | with_reducible exact H | (rw [hy337]; exact H) | exact H
              have Ny337 := Aside0.mk hy337
              clear hy337
              replace H := Option.bind_eq_some_iff.mp H
              obtain ⟨t340, A380, H⟩ := H
              replace H : (some t340) = some r := H
              have A38 := Aside0.mk A380
              clear A380
              obtain rfl := Option.some.inj H
              obtain ⟨Ao39, co39, eo39⟩ := Kd.R_slice HO_5.out
              subst eo39
              go_wp2_with (first | ((with_reducible refine gate_dst (N := 55) rfl ?_); refine Kd.R_lit k101 _ 101 ?hg (N := 55) ?hd (xs := ([(⟨(⟨#[97]⟩ : ByteArray), false, (⟨#[49]⟩ : ByteArray)⟩ : S101)] : List (S101))) (inner := [.string (⟨#[97]⟩ : ByteArray), .bool false, .string (⟨#[49]⟩ : ByteArray)]) (ok := fun _ => True) (okp := fun _ => True) ?hr ?hp (fun _ hk => hk) trivial (Below.refl _ _) (Nat.le_refl _) (by simp) ?_; (case hd => rfl); (case hg => rfl); (case hr => first | (go_simp; done) | (go_simp; rfl)); (case hp => exact (Reps.c3 (show Kd.M k101 _ _ _ (⟨(⟨#[97]⟩ : ByteArray), false, (⟨#[49]⟩ : ByteArray)⟩ : S101) [.string (⟨#[97]⟩ : ByteArray), .bool false, .string (⟨#[49]⟩ : ByteArray)] from (k101_mkM _ _ _ (⟨(⟨#[97]⟩ : ByteArray), false, (⟨#[49]⟩ : ByteArray)⟩ : S101) )) (Reps.none _ _))); intro v338 w40 ho41 hb hg_ hnew_; clear hg_ hnew_; (first | rw [← Ny337.out] at ho41 | (simp only [Int.reduceToNat] at ho41; rw [← Ny337.out] at ho41)); have n0_ := Aside0.mk (Kd.R_elder' (by (with_reducible repeat (first | apply Kd.R_alloc | apply Kd.R_drewN | apply Kd.R_drew)); exact HO_5.out) (Kd.R_base ho41) hb); have n1_ := Aside0.mk (Kd.R_lower (Kd.R_new' ho41 (Kd.R_lt (by (with_reducible repeat (first | apply Kd.R_alloc | apply Kd.R_drewN | apply Kd.R_drew)); exact HO_5.out))) (below_size (by repeat (first | (with_reducible first | exact HB.out | apply below_alloc | apply pw_below_drewN | apply below_drew1) | exact HB.out)))); have n2_ := Aside0.mk (below_step (by repeat (first | (with_reducible first | exact HB.out | apply below_alloc | apply pw_below_drewN | apply below_drew1) | exact HB.out)) hb); clear HO_5; clear HB; have HO_5 := n0_; have HO339 := n1_; have HB := n2_; clear n0_ n1_ n2_; clear hb ho41; obtain ⟨Ao42, co42, eo42⟩ := Kd.R_slice HO339.out; subst eo42) | ((with_reducible refine gate_callee (f := 101) rfl ?_); refine goesL_ (some 57) rfl rfl Tryd.func101 (by kernel_rfl) rfl #[.slice Ao42 y337.length co42] rfl (by (try simp only [List.map_toArray, List.map_cons, List.map_nil]); first | done | rfl | (simp only [List.length_drop, List.length_take]; rfl)) ?_; (with_reducible refine (cachepotref1_BatchMake.calls kj2 _ _ y337 t340 _ ?side1 ?side2 A38.out).mono ?_); (case side1 => repeat (first | exact (Kd.R_reads' HO339.out).2.2 | (with_reducible refine Kd.C_alloc ?_ _) | (with_reducible refine Kd.C_drewN ?_ _) | (with_reducible refine Kd.C_drew ?_))); (case side2 => exact (Kd.R_reads' HO339.out).2.1); rintro e w43 ⟨v341, rfl, ho0, hb⟩; refine ⟨_, rfl, ?_⟩; have n0_ := Aside0.mk (Kd.R_elder' (by (with_reducible repeat (first | apply Kd.R_alloc | apply Kd.R_drewN | apply Kd.R_drew)); exact HO_5.out) (Kd.R_base ho0) hb); have n1_ := Aside0.mk (Kd.R_elder' (by (with_reducible repeat (first | apply Kd.R_alloc | apply Kd.R_drewN | apply Kd.R_drew)); exact HO339.out) (Kd.R_base ho0) hb); have n2_ := Aside0.mk (Kd.R_lower (Kd.R_new' (Kd.R_new' ho0 (Kd.R_lt (by (with_reducible repeat (first | apply Kd.R_alloc | apply Kd.R_drewN | apply Kd.R_drew)); exact HO_5.out))) (Kd.R_lt (by (with_reducible repeat (first | apply Kd.R_alloc | apply Kd.R_drewN | apply Kd.R_drew)); exact HO339.out))) (below_size (by repeat (first | (with_reducible first | exact HB.out | apply below_alloc | apply pw_below_drewN | apply below_drew1) | exact HB.out)))); have n3_ := Aside0.mk (below_step (by repeat (first | (with_reducible first | exact HB.out | apply below_alloc | apply pw_below_drewN | apply below_drew1) | exact HB.out)) hb); clear HO_5; clear HO339; clear HB; have HO_5 := n0_; have HO339 := n1_; have HO342 := n2_; have HB := n3_; clear n0_ n1_ n2_ n3_; (try clear hb); (try clear hb2); (try clear hk); (try clear hi); (try clear ho0)))
              go_ret
              exact ⟨_, by first | rfl | (simp [errW_none, errW_some] <;> rfl) | (simp [*, errW_none, errW_some] <;> rfl), by (with_reducible repeat (first | apply Kd.R_alloc | apply Kd.R_drewN | apply Kd.R_drew)); exact Kd.R_mono HO342.out (fun _ hk => trivial), by repeat (first | (with_reducible first | exact HB.out | apply below_alloc | apply pw_below_drewN | apply below_drew1) | exact HB.out)⟩
            · rw [if_neg c37] at H
              have c37b0 : ((x5_1.length : Int) == 0) = false := beq_eq_false_iff_ne.mpr c37
              have c37b1 : ((x5_1.length : Int) != 0) = true := bne_iff_ne.mpr c37
              have c37b2 : ¬ (x5_1 = []) := fun h_ => c37 (by rw [h_]; rfl)
              replace H := Option.bind_eq_some_iff.mp H
              obtain ⟨t343, A440, H⟩ := H
              replace H : (some t343) = some r := H
              have A44 := Aside0.mk A440
              clear A440
              obtain rfl := Option.some.inj H
              obtain ⟨Ao45, co45, eo45⟩ := Kd.R_slice HO_5.out
              subst eo45
              go_wp2_with (first | ((with_reducible refine gate_callee (f := 101) rfl ?_); refine goesL_ (some 57) rfl rfl Tryd.func101 (by kernel_rfl) rfl #[.slice Ao45 x5_1.length co45] rfl (by (try simp only [List.map_toArray, List.map_cons, List.map_nil]); first | done | rfl | (simp only [List.length_drop, List.length_take]; rfl)) ?_; (with_reducible refine (cachepotref1_BatchMake.calls kj2 _ _ x5_1 t343 _ ?side1 ?side2 A44.out).mono ?_); (case side1 => repeat (first | exact (Kd.R_reads' HO_5.out).2.2 | (with_reducible refine Kd.C_alloc ?_ _) | (with_reducible refine Kd.C_drewN ?_ _) | (with_reducible refine Kd.C_drew ?_))); (case side2 => exact (Kd.R_reads' HO_5.out).2.1); rintro e w46 ⟨v344, rfl, ho0, hb⟩; refine ⟨_, rfl, ?_⟩; have n0_ := Aside0.mk (Kd.R_elder' (by (with_reducible repeat (first | apply Kd.R_alloc | apply Kd.R_drewN | apply Kd.R_drew)); exact HO_5.out) (Kd.R_base ho0) hb); have n1_ := Aside0.mk (Kd.R_lower (Kd.R_new' ho0 (Kd.R_lt (by (with_reducible repeat (first | apply Kd.R_alloc | apply Kd.R_drewN | apply Kd.R_drew)); exact HO_5.out))) (below_size (by repeat (first | (with_reducible first | exact HB.out | apply below_alloc | apply pw_below_drewN | apply below_drew1) | exact HB.out)))); have n2_ := Aside0.mk (below_step (by repeat (first | (with_reducible first | exact HB.out | apply below_alloc | apply pw_below_drewN | apply below_drew1) | exact HB.out)) hb); clear HO_5; clear HB; have HO_5 := n0_; have HO345 := n1_; have HB := n2_; clear n0_ n1_ n2_; (try clear hb); (try clear hb2); (try clear hk); (try clear hi); (try clear ho0)))
              go_ret
              exact ⟨_, by first | rfl | (simp [errW_none, errW_some] <;> rfl) | (simp [*, errW_none, errW_some] <;> rfl), by (with_reducible repeat (first | apply Kd.R_alloc | apply Kd.R_drewN | apply Kd.R_drew)); exact Kd.R_mono HO345.out (fun _ hk => trivial), by repeat (first | (with_reducible first | exact HB.out | apply below_alloc | apply pw_below_drewN | apply below_drew1) | exact HB.out)⟩
end Go.Proofs.YtfaelejeihmgcaaDoor.Lgx
end

section
namespace Go.Proofs.YtfaelejeihmgcaaDoor.Lgx
open Go.RowKit Go.Proofs.YtfaelejeihmgcaaDoorW.PrintWords Go.Proofs.YtfaelejeihmgcaaDoorW.PrintLast
def pickI (n m : Int) : Int := if Int.tmod n m < 0 then Int.tmod n m + m else Int.tmod n m
theorem pickI_f (n m : Int) (h0 : 0 < m) (h1 : m ≤ 9223372036854775807) : cachepotbook_Pick.f n m = some (pickI n m) := by
  have hb : Int.tmod n m < m ∧ -m < Int.tmod n m := ⟨Int.tmod_lt_of_pos n h0, Int.lt_tmod_of_pos n h0⟩
  unfold cachepotbook_Pick.f pickI
  rw [if_neg (by omega)]
  split
  · rw [show wrap64 (Int.tmod n m + m) = Int.tmod n m + m by unfold wrap64; omega]
  · rfl
theorem pickI_in (n m : Int) (h0 : 0 < m) (h1 : m ≤ 9223372036854775807) : 0 ≤ pickI n m ∧ pickI n m < m := pick_ok n m _ h0 h1 (pickI_f n m h0 h1)
set_option maxRecDepth 100000 in
theorem pick_same (n m : Int) (h0 : 0 < m) (h1 : m ≤ 9223372036854775807) (w : World) : Calls Tryd.prog 25 #[.int .i64 n, .int .i64 m] w fun e w' => e = .returned (.int .i64 (pickI n m)) ∧ w' = w := by
  have hb : Int.tmod n m < m ∧ -m < Int.tmod n m := ⟨Int.tmod_lt_of_pos n h0, Int.lt_tmod_of_pos n h0⟩
  have z0 : (m == 0) = false := beq_eq_false_iff_ne.2 (by omega)
  have z1 : ¬ m = 0 := by omega
  by_cases hn : Int.tmod n m < 0
  · have e : pickI n m = Int.tmod n m + m := by rw [pickI, if_pos hn]
    have d1 : decide (Int.tmod n m < 0) = true := decide_eq_true hn
    have E := Lib.hid e
    obtain ⟨b1, b2⟩ := hb
    clear e
    go_enter Tryd.func25, Tryd.ntmps25
    go_wp2
    go_ret
    exact ⟨by rw [E.out]; rfl, rfl⟩
  · have e : pickI n m = Int.tmod n m := by rw [pickI, if_neg hn]
    have d1 : decide (Int.tmod n m < 0) = false := decide_eq_false hn
    have E := Lib.hid e
    clear e
    go_enter Tryd.func25, Tryd.ntmps25
    go_wp2
    go_ret
    exact ⟨by rw [E.out]; rfl, rfl⟩
set_option maxHeartbeats 8000000 in
set_option maxRecDepth 100000 in
theorem turned_none (f0 f1 : Int) (A2 : Option Addr) (n2 c2 : Nat) (A3 : Option Addr) (c3 : Nat) (A4 : Option Addr) (n4 c4 : Nat) (at_ how : Int) (w : World) (hf : ¬ f0 = 1) :
    Calls Tryd.prog 71 #[.agg #[.int .i64 f0, .int .u32 f1, .slice A2 n2 c2, .slice A3 0 c3, .slice A4 n4 c4], .int .i64 at_, .int .i64 how] w fun e w' =>
      e = .returned (.agg #[.int .i64 f0, .int .u32 f1, .slice A2 n2 c2, .slice A3 0 c3, .slice A4 n4 c4]) ∧ Below w.heap.size w w' := by
  have t1 : (f0 == 1) = false := beq_eq_false_iff_ne.2 hf
  have hb1 := heap_alloc_new w (.cells #[.int .i64 f0, .int .u32 f1, .slice A2 n2 c2, .slice A3 0 c3, .slice A4 n4 c4] 43)
  have hw1 := below_alloc (Below.refl _ w) (.cells #[.int .i64 f0, .int .u32 f1, .slice A2 n2 c2, .slice A3 0 c3, .slice A4 n4 c4] 43)
  have hz1 : (w.alloc (.cells #[.int .i64 f0, .int .u32 f1, .slice A2 n2 c2, .slice A3 0 c3, .slice A4 n4 c4] 43)).heap.size = w.heap.size + 1 := by simp
  go_enter Tryd.func71, Tryd.ntmps71
  go_upto_region 1 with (fail)
  generalize w.alloc (.cells #[.int .i64 f0, .int .u32 f1, .slice A2 n2 c2, .slice A3 0 c3, .slice A4 n4 c4] 43) = w1 at hb1 hw1 hz1 ⊢
  have hb2 := heap_alloc_new w1 (.cells #[.int .i64 0, .int .u32 0, .slice none 0 0, .slice none 0 0, .slice none 0 0] 43)
  rw [hz1] at hb2
  have hb1' : (w1.alloc (.cells #[.int .i64 0, .int .u32 0, .slice none 0 0, .slice none 0 0, .slice none 0 0] 43)).heap[w.heap.size]? = some (.cells #[.int .i64 f0, .int .u32 f1, .slice A2 n2 c2, .slice A3 0 c3, .slice A4 n4 c4] 43) := by
    rw [Lib.alloc_old w1 _ _ (by omega)]; exact hb1
  have hw2 := below_alloc hw1 (.cells #[.int .i64 0, .int .u32 0, .slice none 0 0, .slice none 0 0, .slice none 0 0] 43)
  generalize w1.alloc (.cells #[.int .i64 0, .int .u32 0, .slice none 0 0, .slice none 0 0, .slice none 0 0] 43) = w2 at hb2 hb1' hw2 ⊢
  clear hb1 hw1 hz1
  have y0 : w2.cell? ⟨w.heap.size, 0, none⟩ = some (.int .i64 f0) := Lib.cell_of_heap hb1' 0
  have y1 : w2.cell? ⟨w.heap.size, 1, none⟩ = some (.int .u32 f1) := Lib.cell_of_heap hb1' 1
  have y2 : w2.cell? ⟨w.heap.size, 2, none⟩ = some (.slice A2 n2 c2) := Lib.cell_of_heap hb1' 2
  have y3 : w2.cell? ⟨w.heap.size, 3, none⟩ = some (.slice A3 0 c3) := Lib.cell_of_heap hb1' 3
  have y4 : w2.cell? ⟨w.heap.size, 4, none⟩ = some (.slice A4 n4 c4) := Lib.cell_of_heap hb1' 4
  have r0 : w2.cell? ⟨w.heap.size + 1, 0, none⟩ = some (.int .i64 0) := Lib.cell_of_heap hb2 0
  have r1 : w2.cell? ⟨w.heap.size + 1, 1, none⟩ = some (.int .u32 0) := Lib.cell_of_heap hb2 1
  have r2 : w2.cell? ⟨w.heap.size + 1, 2, none⟩ = some (.slice none 0 0) := Lib.cell_of_heap hb2 2
  have r3 : w2.cell? ⟨w.heap.size + 1, 3, none⟩ = some (.slice none 0 0) := Lib.cell_of_heap hb2 3
  have r4 : w2.cell? ⟨w.heap.size + 1, 4, none⟩ = some (.slice none 0 0) := Lib.cell_of_heap hb2 4
  have fr0 : w2.frozen? ⟨w.heap.size + 1, 0, none⟩ = false := Lib.frozen_of_heap hb2 0
  have fr1 : w2.frozen? ⟨w.heap.size + 1, 1, none⟩ = false := Lib.frozen_of_heap hb2 1
  have fr2 : w2.frozen? ⟨w.heap.size + 1, 2, none⟩ = false := Lib.frozen_of_heap hb2 2
  have fr3 : w2.frozen? ⟨w.heap.size + 1, 3, none⟩ = false := Lib.frozen_of_heap hb2 3
  have fr4 : w2.frozen? ⟨w.heap.size + 1, 4, none⟩ = false := Lib.frozen_of_heap hb2 4
  have fy1 : w2.frozen? ⟨w.heap.size, 1, none⟩ = false := Lib.frozen_of_heap hb1' 1
  go_wp2
  refine bodyPost_ret (v := .agg #[.int .i64 f0, .int .u32 f1, .slice A2 n2 c2, .slice A3 0 c3, .slice A4 n4 c4]) (by simp [results, Tryd.results71, go_sem, r0, r1, r2, r3, r4]) rfl ⟨rfl, ?_⟩
  repeat (first | (with_reducible exact hw2) | (refine Below.setCell ?_ (by simp) _))
set_option maxHeartbeats 8000000 in
set_option maxRecDepth 100000 in
theorem turned_commit (f1 : Int) (A2 : Option Addr) (n2 c2 : Nat) (A3 : Option Addr) (n3 c3 : Nat) (A4 : Option Addr) (n4 c4 : Nat) (at_ how : Int) (w : World) (h0 : 0 ≤ f1) (h1 : f1 ≤ 4294967295) :
    Calls Tryd.prog 71 #[.agg #[.int .i64 1, .int .u32 f1, .slice A2 n2 c2, .slice A3 n3 c3, .slice A4 n4 c4], .int .i64 at_, .int .i64 how] w fun e w' =>
      e = .returned (.agg #[.int .i64 1, .int .u32 (f1 / 2 + pickI at_ 3), .slice A2 n2 c2, .slice A3 n3 c3, .slice A4 n4 c4]) ∧ Below w.heap.size w w' := by
  obtain ⟨p0, p1⟩ := pickI_in at_ 3 (by decide) (by decide)
  have hp := pick_same at_ 3 (by decide) (by decide)
  have hb1 := heap_alloc_new w (.cells #[.int .i64 1, .int .u32 f1, .slice A2 n2 c2, .slice A3 n3 c3, .slice A4 n4 c4] 43)
  have hw1 := below_alloc (Below.refl _ w) (.cells #[.int .i64 1, .int .u32 f1, .slice A2 n2 c2, .slice A3 n3 c3, .slice A4 n4 c4] 43)
  have hz1 : (w.alloc (.cells #[.int .i64 1, .int .u32 f1, .slice A2 n2 c2, .slice A3 n3 c3, .slice A4 n4 c4] 43)).heap.size = w.heap.size + 1 := by simp
  go_enter Tryd.func71, Tryd.ntmps71
  go_wp2
  generalize w.alloc (.cells #[.int .i64 1, .int .u32 f1, .slice A2 n2 c2, .slice A3 n3 c3, .slice A4 n4 c4] 43) = w1 at hb1 hw1 hz1 ⊢
  have hb2 := heap_alloc_new w1 (.cells #[.int .i64 0, .int .u32 0, .slice none 0 0, .slice none 0 0, .slice none 0 0] 43)
  rw [hz1] at hb2
  have hb1' : (w1.alloc (.cells #[.int .i64 0, .int .u32 0, .slice none 0 0, .slice none 0 0, .slice none 0 0] 43)).heap[w.heap.size]? = some (.cells #[.int .i64 1, .int .u32 f1, .slice A2 n2 c2, .slice A3 n3 c3, .slice A4 n4 c4] 43) := by
    rw [Lib.alloc_old w1 _ _ (by omega)]; exact hb1
  have hw2 := below_alloc hw1 (.cells #[.int .i64 0, .int .u32 0, .slice none 0 0, .slice none 0 0, .slice none 0 0] 43)
  generalize w1.alloc (.cells #[.int .i64 0, .int .u32 0, .slice none 0 0, .slice none 0 0, .slice none 0 0] 43) = w2 at hb2 hb1' hw2 ⊢
  clear hb1 hw1 hz1
  have y0 : w2.cell? ⟨w.heap.size, 0, none⟩ = some (.int .i64 1) := Lib.cell_of_heap hb1' 0
  have y1 : w2.cell? ⟨w.heap.size, 1, none⟩ = some (.int .u32 f1) := Lib.cell_of_heap hb1' 1
  have y2 : w2.cell? ⟨w.heap.size, 2, none⟩ = some (.slice A2 n2 c2) := Lib.cell_of_heap hb1' 2
  have y3 : w2.cell? ⟨w.heap.size, 3, none⟩ = some (.slice A3 n3 c3) := Lib.cell_of_heap hb1' 3
  have y4 : w2.cell? ⟨w.heap.size, 4, none⟩ = some (.slice A4 n4 c4) := Lib.cell_of_heap hb1' 4
  have r0 : w2.cell? ⟨w.heap.size + 1, 0, none⟩ = some (.int .i64 0) := Lib.cell_of_heap hb2 0
  have r1 : w2.cell? ⟨w.heap.size + 1, 1, none⟩ = some (.int .u32 0) := Lib.cell_of_heap hb2 1
  have r2 : w2.cell? ⟨w.heap.size + 1, 2, none⟩ = some (.slice none 0 0) := Lib.cell_of_heap hb2 2
  have r3 : w2.cell? ⟨w.heap.size + 1, 3, none⟩ = some (.slice none 0 0) := Lib.cell_of_heap hb2 3
  have r4 : w2.cell? ⟨w.heap.size + 1, 4, none⟩ = some (.slice none 0 0) := Lib.cell_of_heap hb2 4
  have fr0 : w2.frozen? ⟨w.heap.size + 1, 0, none⟩ = false := Lib.frozen_of_heap hb2 0
  have fr1 : w2.frozen? ⟨w.heap.size + 1, 1, none⟩ = false := Lib.frozen_of_heap hb2 1
  have fr2 : w2.frozen? ⟨w.heap.size + 1, 2, none⟩ = false := Lib.frozen_of_heap hb2 2
  have fr3 : w2.frozen? ⟨w.heap.size + 1, 3, none⟩ = false := Lib.frozen_of_heap hb2 3
  have fr4 : w2.frozen? ⟨w.heap.size + 1, 4, none⟩ = false := Lib.frozen_of_heap hb2 4
  have fy1 : w2.frozen? ⟨w.heap.size, 1, none⟩ = false := Lib.frozen_of_heap hb1' 1
  refine wp_region_still_tail 8 (by kernel_rfl) (by kernel_rfl) ?_
  simp only [List.take_succ_cons, List.take_zero, List.drop_succ_cons, List.drop_zero]
  repeat still_step
  still_call (hp _)
  repeat still_step
  refine wpStill_nil ?_
  change wpList _ _ _ _ _ w2.drew
  go_wp2
  refine bodyPost_ret (v := .agg #[.int .i64 1, .int .u32 (f1 / 2 + pickI at_ 3), .slice A2 n2 c2, .slice A3 n3 c3, .slice A4 n4 c4]) (by simp [results, Tryd.results71, go_sem, r0, r1, r2, r3, r4]) rfl ⟨rfl, ?_⟩
  refine below_drew ?_
  repeat (first | (with_reducible exact hw2) | (refine Below.setCell ?_ (by simp) _))
end Go.Proofs.YtfaelejeihmgcaaDoor.Lgx
end

section
namespace Go.Proofs.YtfaelejeihmgcaaDoor.Lgx
open Go.RowKit Go.Proofs.YtfaelejeihmgcaaDoorW.PrintWords Go.Proofs.YtfaelejeihmgcaaDoorW.PrintLast
theorem w64s (x : Int) (h0 : -9223372036854775808 ≤ x) (h1 : x ≤ 9223372036854775807) : wrap64 x = x := by unfold wrap64; omega
theorem le_snoc {α : Type} {l : List α} {x : α} {P : α → Prop} (h : ∀ y ∈ l, P y) (hx : P x) : ∀ y ∈ l ++ [x], P y := fun y hy => by
  rcases List.mem_append.1 hy with h' | h'
  · exact h y h'
  · rw [List.mem_singleton.1 h']; exact hx
theorem len_snoc {α : Type} (l : List α) (x : α) : (l ++ [x]).length = l.length + 1 := by simp
theorem mn_in (a b : Int) (h0 : 0 ≤ a) (h1 : 0 ≤ b) : 0 ≤ mn a b ∧ mn a b ≤ a ∧ mn a b ≤ b := by
  unfold mn
  split <;> omega
theorem short_ok (s : ByteArray) (n : Int) (h0 : 0 ≤ n) : ∃ r, cachepotbook_Short.f s n = some r ∧ (r.size : Int) ≤ n := by
  obtain ⟨h1, h2, h3⟩ := mn_in (s.size : Int) n (by omega) h0
  unfold cachepotbook_Short.f
  rw [if_pos h1, if_pos h2]
  exact ⟨_, rfl, by rw [ByteArray.size_extract]; omega⟩
theorem texts_l0 (l : List ByteArray) (m n : Int) (hm : m ≤ 1000) (hn : 0 ≤ n) : ∀ (d k i : Nat) (acc : List ByteArray), (m - i).toNat = d → d < k → acc.length ≤ i → (i : Int) ≤ m → (∀ y ∈ acc, (y.size : Int) ≤ n) →
    ∃ r, cachepotbook_Texts.l0 k l m n acc (i : Int) = some r ∧ (r.length : Int) ≤ m ∧ ∀ y ∈ r, (y.size : Int) ≤ n := by
  intro d
  induction d with
  | zero =>
    intro k i acc hd hk ha hi hs
    obtain ⟨k, rfl⟩ : ∃ m, k = m + 1 := ⟨k - 1, by omega⟩
    simp only [cachepotbook_Texts.l0]
    by_cases h1 : (i : Int) < l.length
    · rw [if_pos h1, if_neg (by omega)]
      exact ⟨acc, rfl, by omega, hs⟩
    · rw [if_neg h1]
      exact ⟨acc, rfl, by omega, hs⟩
  | succ d ih =>
    intro k i acc hd hk ha hi hs
    obtain ⟨k, rfl⟩ : ∃ m, k = m + 1 := ⟨k - 1, by omega⟩
    simp only [cachepotbook_Texts.l0]
    by_cases h1 : (i : Int) < l.length
    · obtain ⟨r, hr, hr2⟩ := short_ok (rdOf ByteArray.empty l (i : Int)) n hn
      rw [if_pos h1, if_pos (by omega), if_pos (by omega), hr]
      simp only [Option.bind_some]
      rw [if_pos (by omega), w64s _ (by omega) (by omega)]
      exact ih k (i + 1) (acc ++ [r]) (by omega) (by omega) (by rw [len_snoc]; omega) (by omega) (le_snoc hs hr2)
    · rw [if_neg h1]
      exact ⟨acc, rfl, by omega, hs⟩
theorem texts_ok (l : List ByteArray) (k : Nat) (hk : 10 ≤ k) : ∃ r, cachepotbook_Texts.f k l 6 40 = some r ∧ r.length ≤ 6 ∧ ∀ y ∈ r, y.size ≤ 40 := by
  obtain ⟨r, h1, h2, h3⟩ := texts_l0 l 6 40 (by decide) (by decide) 6 k 0 [] (by decide) (by omega) (by simp) (by decide) (fun y hy => by simp at hy)
  exact ⟨r, h1, by omega, fun y hy => by have := h3 y hy; omega⟩
theorem bwrites_l0 (l : List S101) : ∀ (d k i : Nat) (acc : List S101), 6 - i = d → 2 * d + 1 < k → acc.length ≤ i → i ≤ 6 → (∀ y ∈ acc, y.f0.size ≤ 60 ∧ y.f2.size ≤ 60) →
    ∃ r, cachepotbook_Writes.l0 k l 6 acc (i : Int) = some r ∧ r.length ≤ 6 ∧ ∀ y ∈ r, y.f0.size ≤ 60 ∧ y.f2.size ≤ 60 := by
  intro d
  induction d with
  | zero =>
    intro k i acc hd hk ha hi hs
    obtain ⟨k, rfl⟩ : ∃ m, k = m + 2 := ⟨k - 2, by omega⟩
    simp only [cachepotbook_Writes.l0]
    by_cases h1 : (i : Int) < l.length
    · rw [if_pos h1, decide_eq_false (by omega)]
      simp only [cachepotbook_Writes.j1]
      rw [if_neg (by decide)]
      exact ⟨acc, rfl, by omega, hs⟩
    · rw [if_neg h1]
      simp only [cachepotbook_Writes.j1]
      rw [if_neg (by decide)]
      exact ⟨acc, rfl, by omega, hs⟩
  | succ d ih =>
    intro k i acc hd hk ha hi hs
    obtain ⟨k, rfl⟩ : ∃ m, k = m + 2 := ⟨k - 2, by omega⟩
    simp only [cachepotbook_Writes.l0]
    by_cases h1 : (i : Int) < l.length
    · obtain ⟨r, hr, hr2⟩ := short_ok (rd_T101 l (i : Int)).f0 60 (by decide)
      obtain ⟨q, hq, hq2⟩ := short_ok (rd_T101 l (i : Int)).f2 60 (by decide)
      rw [if_pos h1, decide_eq_true (by omega)]
      simp only [cachepotbook_Writes.j1]
      rw [if_pos trivial, if_pos (by omega), if_pos h1, hr]
      simp only [Option.bind_some]
      rw [hq]
      simp only [Option.bind_some]
      rw [if_pos (by omega), w64s _ (by omega) (by omega)]
      exact ih k (i + 1) (acc ++ [⟨r, (rd_T101 l (i : Int)).f1, q⟩]) (by omega) (by omega) (by rw [len_snoc]; omega) (by omega) (le_snoc hs ⟨by simp only; omega, by simp only; omega⟩)
    · rw [if_neg h1]
      simp only [cachepotbook_Writes.j1]
      rw [if_neg (by decide)]
      exact ⟨acc, rfl, by omega, hs⟩
theorem bwrites_ok (l : List S101) (k : Nat) (hk : 20 ≤ k) : ∃ r, cachepotbook_Writes.f k l 6 = some r ∧ r.length ≤ 6 ∧ ∀ y ∈ r, y.f0.size ≤ 60 ∧ y.f2.size ≤ 60 :=
  bwrites_l0 l 6 k 0 [] (by decide) (by omega) (by simp) (by decide) (fun y hy => by simp at hy)
/-- an answer of few bytes -/
def AnsB (V : Nat) (y : S98) : Prop := y.f0.size ≤ 60 ∧ y.f2.size ≤ V ∧ 0 ≤ y.f3 ∧ y.f3 ≤ 4294967295
theorem AnsB.mono {V V' : Nat} {y : S98} (h : AnsB V y) (hV : V ≤ V') : AnsB V' y := ⟨h.1, Nat.le_trans h.2.1 hV, h.2.2⟩
theorem rd98_any (l : List S98) (i : Int) : rd_T98 l i ∈ l ∨ rd_T98 l i = z98 := by
  unfold rd_T98
  rw [List.getD_eq_getElem?_getD]
  cases h : l[i.toNat]? with
  | none => exact .inr rfl
  | some x => exact .inl (List.mem_of_getElem? h)
theorem short_l0 (l : List S98) (t s : Int) (W : List S101) (T : List ByteArray) (hu : ∀ y ∈ l, 0 ≤ y.f3 ∧ y.f3 ≤ 4294967295) : ∀ (d k i : Nat) (acc : List S98), 6 - i = d → 2 * d + 1 < k → acc.length ≤ i → i ≤ 6 → (∀ y ∈ acc, AnsB 60 y) →
    ∃ r, cachepotlaw21_short.l0 k acc (i : Int) t s W l T = some (t, s, W, r, T) ∧ r.length ≤ 6 ∧ ∀ y ∈ r, AnsB 60 y := by
  intro d
  induction d with
  | zero =>
    intro k i acc hd hk ha hi hs
    obtain ⟨k, rfl⟩ : ∃ m, k = m + 2 := ⟨k - 2, by omega⟩
    simp only [cachepotlaw21_short.l0]
    by_cases h1 : (i : Int) < l.length
    · rw [if_pos h1, decide_eq_false (by omega)]
      simp only [cachepotlaw21_short.j1]
      rw [if_neg (by decide)]
      exact ⟨acc, rfl, by omega, hs⟩
    · rw [if_neg h1]
      simp only [cachepotlaw21_short.j1]
      rw [if_neg (by decide)]
      exact ⟨acc, rfl, by omega, hs⟩
  | succ d ih =>
    intro k i acc hd hk ha hi hs
    obtain ⟨k, rfl⟩ : ∃ m, k = m + 2 := ⟨k - 2, by omega⟩
    simp only [cachepotlaw21_short.l0]
    by_cases h1 : (i : Int) < l.length
    · obtain ⟨r, hr, hr2⟩ := short_ok (rd_T98 l (i : Int)).f0 40 (by decide)
      obtain ⟨q, hq, hq2⟩ := short_ok (rd_T98 l (i : Int)).f2 40 (by decide)
      have hf : 0 ≤ (rd_T98 l (i : Int)).f3 ∧ (rd_T98 l (i : Int)).f3 ≤ 4294967295 := by
        rcases rd98_any l i with h | h
        · exact hu _ h
        · rw [h]; exact ⟨by decide, by decide⟩
      rw [if_pos h1, decide_eq_true (by omega)]
      simp only [cachepotlaw21_short.j1]
      rw [if_pos trivial, if_pos (by omega), if_pos h1, hr]
      simp only [Option.bind_some]
      rw [hq]
      simp only [Option.bind_some]
      rw [if_pos (by omega), w64s _ (by omega) (by omega)]
      exact ih k (i + 1) (acc ++ [⟨r, (rd_T98 l (i : Int)).f1, q, (rd_T98 l (i : Int)).f3⟩]) (by omega) (by omega) (by rw [len_snoc]; omega) (by omega) (le_snoc hs ⟨by simp only; omega, by simp only; omega, hf⟩)
    · rw [if_neg h1]
      simp only [cachepotlaw21_short.j1]
      rw [if_neg (by decide)]
      exact ⟨acc, rfl, by omega, hs⟩
/-- an event of few things of few bytes -/
structure EvB (V : Nat) (e : S43) : Prop where
  q0 : 0 ≤ e.f1
  q1 : e.f1 ≤ 4294967295
  n2 : e.f2.length ≤ 6
  s2 : ∀ y ∈ e.f2, y.f0.size ≤ 60 ∧ y.f2.size ≤ 60
  n3 : e.f3.length ≤ 6
  s3 : ∀ y ∈ e.f3, AnsB V y
  n4 : e.f4.length ≤ 6
  s4 : ∀ y ∈ e.f4, y.size ≤ 60
theorem EvB.mono {V V' : Nat} {e : S43} (h : EvB V e) (hV : V ≤ V') : EvB V' e := ⟨h.q0, h.q1, h.n2, h.s2, h.n3, fun y hy => (h.s3 y hy).mono hV, h.n4, h.s4⟩
/-- what an event that is made short must keep -/
def EvU (e : S43) : Prop := 0 ≤ e.f1 ∧ e.f1 ≤ 4294967295 ∧ ∀ y ∈ e.f3, 0 ≤ y.f3 ∧ y.f3 ≤ 4294967295
theorem short_ev (e : S43) (hu : EvU e) (k : Nat) (hk : 30 ≤ k) : ∃ r, cachepotlaw21_short.f k e.f0 e.f1 e.f2 e.f3 e.f4 = some r ∧ EvB 60 ⟨r.1, r.2.1, r.2.2.1, r.2.2.2.1, r.2.2.2.2⟩ := by
  obtain ⟨w, hw, w1, w2⟩ := bwrites_ok e.f2 k (by omega)
  obtain ⟨t, ht, t1, t2⟩ := texts_ok e.f4 k (by omega)
  obtain ⟨a, ha, a1, a2⟩ := short_l0 e.f3 (pickI e.f0 5) e.f1 w t hu.2.2 6 k 0 [] (by decide) (by omega) (by simp) (by decide) (fun y hy => by simp at hy)
  refine ⟨(pickI e.f0 5, e.f1, w, a, t), ?_, ⟨hu.1, hu.2.1, w1, w2, a1, a2, t1, fun y hy => Nat.le_trans (t2 y hy) (by decide)⟩⟩
  unfold cachepotlaw21_short.f
  rw [pickI_f _ _ (by decide) (by decide)]
  simp only [Option.bind_some]
  rw [hw]
  simp only [Option.bind_some]
  rw [ht]
  simp only [Option.bind_some]
  exact ha
theorem name_size (i : Int) : (nameAt i).size ≤ 4 := by
  have h : ∀ l ∈ namesL, l.length ≤ 4 := by decide
  unfold nameAt
  show ((namesL.getD i.toNat []).toArray).size ≤ 4
  rw [List.size_toArray, List.getD_eq_getElem?_getD]
  cases hx : namesL[i.toNat]? with
  | none => simp
  | some x => exact h x (List.mem_of_getElem? hx)
theorem key_f (n : Int) : cachepothand_Key.f n = some (nameAt (pickI n 12)) := by
  unfold cachepothand_Key.f
  rw [pickI_f _ _ (by decide) (by decide)]
  rfl
theorem keys_l0 (l : List Int) (m : Int) (hm : m ≤ 1000) : ∀ (d k i : Nat) (acc : List ByteArray), (m - i).toNat = d → d < k → acc.length ≤ i → (i : Int) ≤ m → (∀ y ∈ acc, y.size ≤ 4) →
    ∃ r, cachepothand_Keys.l0 k l m acc (i : Int) = some r ∧ (r.length : Int) ≤ m ∧ ∀ y ∈ r, y.size ≤ 4 := by
  intro d
  induction d with
  | zero =>
    intro k i acc hd hk ha hi hs
    obtain ⟨k, rfl⟩ : ∃ m, k = m + 1 := ⟨k - 1, by omega⟩
    simp only [cachepothand_Keys.l0]
    by_cases h1 : (i : Int) < l.length
    · rw [if_pos h1, if_neg (by omega)]
      exact ⟨acc, rfl, by omega, hs⟩
    · rw [if_neg h1]
      exact ⟨acc, rfl, by omega, hs⟩
  | succ d ih =>
    intro k i acc hd hk ha hi hs
    obtain ⟨k, rfl⟩ : ∃ m, k = m + 1 := ⟨k - 1, by omega⟩
    simp only [cachepothand_Keys.l0]
    by_cases h1 : (i : Int) < l.length
    · rw [if_pos h1, if_pos (by omega), if_pos (by omega), key_f]
      simp only [Option.bind_some]
      rw [if_pos (by omega), w64s _ (by omega) (by omega)]
      exact ih k (i + 1) (acc ++ [nameAt (pickI (rd l (i : Int)) 12)]) (by omega) (by omega) (by rw [len_snoc]; omega) (by omega) (le_snoc hs (name_size _))
    · rw [if_neg h1]
      exact ⟨acc, rfl, by omega, hs⟩
theorem keys_ok (l : List Int) (m : Nat) (hm : m ≤ 5) (k : Nat) (hk : 10 ≤ k) : ∃ r, cachepothand_Keys.f k l m = some r ∧ r.length ≤ m ∧ ∀ y ∈ r, y.size ≤ 4 := by
  obtain ⟨r, h1, h2, h3⟩ := keys_l0 l m (by omega) m k 0 [] (by omega) (by omega) (by simp) (by omega) (fun y hy => by simp at hy)
  exact ⟨r, h1, by omega, h3⟩
theorem fill_l0 : ∀ (d k i : Nat) (xs : List Int), 40 - i = d → d < k → i ≤ 40 → xs.length = 40 → ∃ r, cachepotref1_Fill.l0 k 120 xs (i : Int) = some r ∧ r.size = 40 := by
  intro d
  induction d with
  | zero =>
    intro k i xs hd hk hi hx
    obtain ⟨k, rfl⟩ : ∃ m, k = m + 1 := ⟨k - 1, by omega⟩
    simp only [cachepotref1_Fill.l0]
    rw [if_neg (by omega)]
    exact ⟨_, rfl, by rw [strOfNums_size, hx]⟩
  | succ d ih =>
    intro k i xs hd hk hi hx
    obtain ⟨k, rfl⟩ : ∃ m, k = m + 1 := ⟨k - 1, by omega⟩
    simp only [cachepotref1_Fill.l0]
    rw [if_pos (by omega), if_pos (by omega), w64s _ (by omega) (by omega)]
    exact ih k (i + 1) _ (by omega) (by omega) (by omega) (by rw [List.length_set, hx])
theorem fill_ok (k : Nat) (hk : 50 ≤ k) : ∃ r, cachepotref1_Fill.f k 120 40 = some r ∧ r.size = 40 := by
  unfold cachepotref1_Fill.f
  rw [if_pos (by decide), if_pos (by decide)]
  exact fill_l0 40 k 0 _ (by decide) (by omega) (by decide) (by rw [List.length_replicate]; rfl)
theorem val_ok (s : ByteArray) (n : Int) (hs : s.size ≤ 140737488355328) (k : Nat) (hk : 50 ≤ k) : ∃ r, cachepothand_Val.f k s n = some r ∧ r.size ≤ 60 := by
  unfold cachepothand_Val.f
  rw [pickI_f _ _ (by decide) (by decide)]
  simp only [Option.bind_some]
  split
  · obtain ⟨t, ht, ht2⟩ := fill_ok k hk
    obtain ⟨r, hr, hr2⟩ := short_ok (s ++ t) 48 (by decide)
    rw [ht]
    simp only [Option.bind_some]
    rw [if_pos (by omega), hr]
    exact ⟨r, rfl, by omega⟩
  · obtain ⟨r, hr, hr2⟩ := short_ok s 48 (by decide)
    rw [hr]
    exact ⟨r, rfl, by omega⟩
/-- a write of few bytes -/
def WrB (y : S101) : Prop := y.f0.size ≤ 60 ∧ y.f2.size ≤ 60
theorem rd101_any (l : List S101) (i : Int) : rd_T101 l i ∈ l ∨ rd_T101 l i = z101 := by
  unfold rd_T101
  rw [List.getD_eq_getElem?_getD]
  cases h : l[i.toNat]? with
  | none => exact .inr rfl
  | some x => exact .inl (List.mem_of_getElem? h)
theorem rd101_b {l : List S101} (h : ∀ y ∈ l, WrB y) (i : Int) : WrB (rd_T101 l i) := by
  rcases rd101_any l i with h' | h'
  · exact h _ h'
  · rw [h']; exact ⟨by decide, by decide⟩
theorem find_l0 (l : List S101) (hl : l.length ≤ 1000) (hs : ∀ y ∈ l, WrB y) (key : ByteArray) : ∀ (d k : Nat), d ≤ l.length → d < k → ∃ r, cachepotref1_BatchFind.l0 k l key ((d : Int) - 1) = some r ∧ r.1.size ≤ 60 ∧ r.2.2.1.size ≤ 60 := by
  intro d
  induction d with
  | zero =>
    intro k hd hk
    obtain ⟨k, rfl⟩ : ∃ m, k = m + 1 := ⟨k - 1, by omega⟩
    simp only [cachepotref1_BatchFind.l0]
    rw [if_neg (by omega)]
    exact ⟨_, rfl, by decide, by decide⟩
  | succ d ih =>
    intro k hd hk
    obtain ⟨k, rfl⟩ : ∃ m, k = m + 1 := ⟨k - 1, by omega⟩
    simp only [cachepotref1_BatchFind.l0]
    rw [if_pos (by omega), if_pos (by omega), if_pos (by omega)]
    split
    · have := rd101_b hs (((d + 1 : Nat) : Int) - 1)
      exact ⟨_, rfl, this.1, this.2⟩
    · rw [show wrap64 (((d + 1 : Nat) : Int) - 1 - 1) = (d : Int) - 1 from by rw [w64s _ (by omega) (by omega)]; omega]
      exact ih k (by omega) (by omega)
theorem find_ok (l : List S101) (hl : l.length ≤ 1000) (hs : ∀ y ∈ l, WrB y) (key : ByteArray) (k : Nat) (hk : 1010 ≤ k ∨ l.length + 1 ≤ k) : ∃ r, cachepotref1_BatchFind.f k l key = some r ∧ r.1.size ≤ 60 ∧ r.2.2.1.size ≤ 60 := by
  unfold cachepotref1_BatchFind.f
  rw [w64s _ (by omega) (by omega)]
  exact find_l0 l hl hs key l.length k (Nat.le_refl _) (by omega)
theorem bkeys_l0 (l : List S101) (hl : l.length ≤ 1000) (hs : ∀ y ∈ l, WrB y) : ∀ (d k i : Nat) (acc : List ByteArray), l.length - i = d → d < k → i ≤ l.length → acc.length = i → (∀ y ∈ acc, y.size ≤ 60) →
    ∃ r, cachepotref1_BatchKeys.l0 k l acc (i : Int) = some r ∧ r.length ≤ l.length ∧ ∀ y ∈ r, y.size ≤ 60 := by
  intro d
  induction d with
  | zero =>
    intro k i acc hd hk hi ha hs2
    obtain ⟨k, rfl⟩ : ∃ m, k = m + 1 := ⟨k - 1, by omega⟩
    simp only [cachepotref1_BatchKeys.l0]
    rw [if_neg (by omega)]
    have hsh : shortK acc = true := by
      unfold shortK
      simp only [Bool.and_eq_true, decide_eq_true_eq, List.all_eq_true]
      exact ⟨by omega, fun y hy => Nat.le_trans (hs2 y hy) (by decide)⟩
    unfold cachepotref1_KeysSorted.f
    rw [if_pos hsh]
    exact ⟨_, rfl, by have := sortedF_len acc; omega, fun y hy => hs2 y (sortedF_mem hy)⟩
  | succ d ih =>
    intro k i acc hd hk hi ha hs2
    obtain ⟨k, rfl⟩ : ∃ m, k = m + 1 := ⟨k - 1, by omega⟩
    simp only [cachepotref1_BatchKeys.l0]
    rw [if_pos (by omega), if_pos (by omega), if_pos (by omega), w64s _ (by omega) (by omega)]
    exact ih k (i + 1) _ (by omega) (by omega) (by omega) (by rw [len_snoc, ha]) (le_snoc hs2 (rd101_b hs _).1)
theorem make_l0 (l : List S101) (hl : l.length ≤ 1000) (hs : ∀ y ∈ l, WrB y) (ks : List ByteArray) (hks : ks.length ≤ l.length) : ∀ (d k i : Nat) (acc : List S101), ks.length - i = d → d + l.length + 1 < k → i ≤ ks.length → acc.length = i → (∀ y ∈ acc, WrB y) →
    ∃ r, cachepotref1_BatchMake.l0 k l ks acc (i : Int) = some r ∧ r.length = ks.length ∧ ∀ y ∈ r, WrB y := by
  intro d
  induction d with
  | zero =>
    intro k i acc hd hk hi ha hs2
    obtain ⟨k, rfl⟩ : ∃ m, k = m + 1 := ⟨k - 1, by omega⟩
    simp only [cachepotref1_BatchMake.l0]
    rw [if_neg (by omega)]
    exact ⟨acc, rfl, by omega, hs2⟩
  | succ d ih =>
    intro k i acc hd hk hi ha hs2
    obtain ⟨k, rfl⟩ : ∃ m, k = m + 1 := ⟨k - 1, by omega⟩
    obtain ⟨r, hr, r1, r2⟩ := find_ok l hl hs (rdOf ByteArray.empty ks (i : Int)) k (.inr (by omega))
    simp only [cachepotref1_BatchMake.l0]
    rw [if_pos (by omega), if_pos (by omega), hr]
    simp only [Option.bind_some]
    split
    · rw [if_pos (by omega), w64s _ (by omega) (by omega)]
      exact ih k (i + 1) _ (by omega) (by omega) (by omega) (by rw [len_snoc, ha]) (le_snoc hs2 ⟨r1, by simp only; decide⟩)
    · rw [if_pos (by omega), w64s _ (by omega) (by omega)]
      exact ih k (i + 1) _ (by omega) (by omega) (by omega) (by rw [len_snoc, ha]) (le_snoc hs2 ⟨r1, r2⟩)
theorem make_ok (l : List S101) (hl : l.length ≤ 5) (hs : ∀ y ∈ l, WrB y) (k : Nat) (hk : 20 ≤ k) : ∃ r, cachepotref1_BatchMake.f k l = some r ∧ r.length ≤ 5 ∧ ∀ y ∈ r, WrB y := by
  obtain ⟨ks, h1, h2, _⟩ := bkeys_l0 l (by omega) hs l.length k 0 [] (by omega) (by omega) (by omega) rfl (fun y hy => by simp at hy)
  obtain ⟨r, h3, h4, h5⟩ := make_l0 l (by omega) hs ks h2 ks.length k 0 [] (by omega) (by omega) (by omega) rfl (fun y hy => by simp at hy)
  refine ⟨r, ?_, by omega, h5⟩
  unfold cachepotref1_BatchMake.f cachepotref1_BatchKeys.f
  rw [show cachepotref1_BatchKeys.l0 k l [] 0 = some ks from h1]
  exact h3
theorem writes_end (l : List S139) (acc : List S101) (i : Int) (k : Nat) (hk : 50 ≤ k) (ha : acc.length ≤ 5) (hs : ∀ y ∈ acc, WrB y) : ∃ r, cachepothand_Writes.j1 k l 5 acc i false = some r ∧ r.length ≤ 5 ∧ ∀ y ∈ r, WrB y := by
  obtain ⟨k, rfl⟩ : ∃ m, k = m + 1 := ⟨k - 1, by omega⟩
  simp only [cachepothand_Writes.j1]
  rw [if_neg (by decide)]
  split
  · obtain ⟨r, h1, h2, h3⟩ := make_ok [⟨⟨#[97]⟩, false, ⟨#[49]⟩⟩] (by decide) (fun y hy => by rw [List.mem_singleton.1 hy]; exact ⟨by decide, by decide⟩) k (by omega)
    rw [h1]
    exact ⟨r, rfl, h2, h3⟩
  · obtain ⟨r, h1, h2, h3⟩ := make_ok acc ha hs k (by omega)
    rw [h1]
    exact ⟨r, rfl, h2, h3⟩
theorem rd139_any (l : List S139) (i : Int) : rd_T139 l i ∈ l ∨ rd_T139 l i = z139 := by
  unfold rd_T139
  rw [List.getD_eq_getElem?_getD]
  cases h : l[i.toNat]? with
  | none => exact .inr rfl
  | some x => exact .inl (List.mem_of_getElem? h)
theorem writes_l0 (l : List S139) (hl : ∀ y ∈ l, y.f2.size ≤ 140737488355328) : ∀ (d k i : Nat) (acc : List S101), 5 - i = d → 2 * d + 100 < k → acc.length ≤ i → i ≤ 5 → (∀ y ∈ acc, WrB y) →
    ∃ r, cachepothand_Writes.l0 k l 5 acc (i : Int) = some r ∧ r.length ≤ 5 ∧ ∀ y ∈ r, WrB y := by
  intro d
  induction d with
  | zero =>
    intro k i acc hd hk ha hi hs
    obtain ⟨k, rfl⟩ : ∃ m, k = m + 1 := ⟨k - 1, by omega⟩
    simp only [cachepothand_Writes.l0]
    by_cases h1 : (i : Int) < l.length
    · rw [if_pos h1, decide_eq_false (by omega)]
      exact writes_end l acc i k (by omega) (by omega) hs
    · rw [if_neg h1]
      exact writes_end l acc i k (by omega) (by omega) hs
  | succ d ih =>
    intro k i acc hd hk ha hi hs
    obtain ⟨k, rfl⟩ : ∃ m, k = m + 2 := ⟨k - 2, by omega⟩
    simp only [cachepothand_Writes.l0]
    by_cases h1 : (i : Int) < l.length
    · have hv : (rd_T139 l (i : Int)).f2.size ≤ 140737488355328 := by
        rcases rd139_any l i with h | h
        · exact hl _ h
        · rw [h]; decide
      obtain ⟨v, hv1, hv2⟩ := val_ok (rd_T139 l (i : Int)).f2 (wrap64 (Int.tdiv (rd_T139 l (i : Int)).f0 12)) hv k (by omega)
      rw [if_pos h1, decide_eq_true (by omega)]
      simp only [cachepothand_Writes.j1]
      rw [if_pos trivial, if_pos (by omega), if_pos h1, key_f]
      simp only [Option.bind_some]
      split
      · rw [if_pos (by omega), w64s _ (by omega) (by omega)]
        exact ih k (i + 1) _ (by omega) (by omega) (by rw [len_snoc]; omega) (by omega) (le_snoc hs ⟨Nat.le_trans (name_size _) (by decide), by simp only; decide⟩)
      · rw [hv1]
        simp only [Option.bind_some]
        rw [if_pos (by omega), w64s _ (by omega) (by omega)]
        exact ih k (i + 1) _ (by omega) (by omega) (by rw [len_snoc]; omega) (by omega) (le_snoc hs ⟨Nat.le_trans (name_size _) (by decide), hv2⟩)
    · rw [if_neg h1]
      exact writes_end l acc i (k + 1) (by omega) (by omega) hs
theorem writes_ok (l : List S139) (hl : ∀ y ∈ l, y.f2.size ≤ 140737488355328) (k : Nat) (hk : 200 ≤ k) : ∃ r, cachepothand_Writes.f k l 5 = some r ∧ r.length ≤ 5 ∧ ∀ y ∈ r, WrB y :=
  writes_l0 l hl 5 k 0 [] (by decide) (by omega) (by simp) (by decide) (fun y hy => by simp at hy)
end Go.Proofs.YtfaelejeihmgcaaDoor.Lgx
end

section
namespace Go.Proofs.YtfaelejeihmgcaaDoor.Lgx
open Go.RowKit Go.Proofs.YtfaelejeihmgcaaDoorW.PrintWords Go.Proofs.YtfaelejeihmgcaaDoorW.PrintLast
def stepR (e : S43) (L : List S98) : List S98 := if e.f0 = 1 then commitF e.f1 e.f2 L else if e.f0 = 3 then forgetF e.f4 L else L
def failsR (e : S43) (L : List S98) : Bool := decide (e.f0 = 2) && !sameA (refGetF L (asked e.f3)) e.f3
def replayR : Nat → List S98 → List S43 → Int × Bool
  | i, _, [] => ((i : Int), true)
  | i, L, e :: l => if failsR e L = true then ((i : Int), false) else replayR (i + 1) (stepR e L) l
def writesN (l : List S43) : Nat := (l.map fun e => e.f2.length).sum
def okR (l : List S43) : Bool := okL l && (decide (writesN l ≤ 1048576) && l.all fun e => e.f2.all fun x => decide (x.f0.size ≤ 1099511627776))
def cachepotref3_Replay.f (l0 : List S43) : Option (Int × Bool) := if okR l0 = true then some (replayR 0 [] l0) else none
end Go.Proofs.YtfaelejeihmgcaaDoor.Lgx
end

section
namespace Go.Proofs.YtfaelejeihmgcaaDoor.Lgx
open Go.RowKit Go.Proofs.YtfaelejeihmgcaaDoorW.PrintWords Go.Proofs.YtfaelejeihmgcaaDoorW.PrintLast
theorem toList_eq_iff {a b : ByteArray} : a.toList = b.toList ↔ a = b :=
  ⟨fun h => Atm.bytes_inj (by rw [← ByteArray.toList_eq, ← ByteArray.toList_eq]; exact h), fun h => by rw [h]⟩
theorem look_skip {k : ByteArray} : ∀ (l : List S98) (a : S98), (∀ y ∈ l, y.f0 ≠ k) → l.foldl (lookStep k) a = a
  | [], _, _ => rfl
  | y :: l, a, h => by
    rw [List.foldl_cons, lookStep, if_neg (fun e => h y (by simp) (toList_eq_iff.1 e))]
    exact look_skip l a (fun z hz => h z (by simp [hz]))
theorem look_filter {k x : ByteArray} (hk : k ≠ x) : ∀ (l : List S98) (a : S98), (withoutF x l).foldl (lookStep k) a = l.foldl (lookStep k) a
  | [], _ => rfl
  | y :: l, a => by
    have ih := look_filter hk l
    unfold withoutF at ih ⊢
    by_cases hy : y.f0 = x
    · have hs : lookStep k a y = a := by rw [lookStep, if_neg (fun e => hk ((toList_eq_iff.1 e).symm.trans hy))]
      rw [List.filter_cons_of_neg (by simp [hy]), List.foldl_cons, hs, ih]
    · have hy' : y.f0.toList ≠ x.toList := fun e => hy (toList_eq_iff.1 e)
      rw [List.filter_cons_of_pos (by simpa using hy'), List.foldl_cons, List.foldl_cons, ih]
theorem without_ne {x : ByteArray} {L : List S98} : ∀ y ∈ withoutF x L, y.f0 ≠ x := fun y hy e => by
  have := (List.mem_filter.1 hy).2
  simp [e] at this
theorem look_without (x k : ByteArray) (L : List S98) : lookF (withoutF x L) k = if k = x then ⟨k, false, ⟨#[]⟩, 0⟩ else lookF L k := by
  unfold lookF
  split
  · rename_i h
    subst h
    exact look_skip _ _ without_ne
  · rename_i h
    exact look_filter h L _
theorem look_ins (seq : Int) (x : S101) (R : List S98) (hR : ∀ y ∈ R, y.f0 ≠ x.f0) (k : ByteArray) : lookF (insF seq x R) k = if k = x.f0 then ⟨x.f0, true, x.f2, seq⟩ else lookF R k := by
  unfold lookF insF
  rw [List.foldl_append, List.foldl_append, List.foldl_cons, List.foldl_nil]
  split
  · rename_i h
    rw [look_skip (R.drop _) _ (fun y hy => by rw [h]; exact hR y (List.mem_of_mem_drop hy)), lookStep, if_pos (by rw [h])]
  · rename_i h
    rw [lookStep, if_neg (fun e => h (toList_eq_iff.1 e).symm)]
    conv => rhs; rw [← List.take_append_drop (placeF x.f0 R) R, List.foldl_append]
/-- a row of answers tells what a map of keys tells -/
def Tells (L : List S98) (M : ByteArray → Atm.Had) : Prop := ∀ k, lookF L k = ⟨k, (M k).1, (M k).2.1, (M k).2.2⟩
theorem Tells.none : Tells [] (fun _ => Atm.nought) := fun _ => rfl
theorem Tells.get {L : List S98} {M : ByteArray → Atm.Had} (h : Tells L M) (l : List ByteArray) : refGetF L l = getM M l :=
  List.map_congr_left fun k _ => h k
theorem Tells.without {L : List S98} {M : ByteArray → Atm.Had} (h : Tells L M) (x : ByteArray) : Tells (withoutF x L) (Atm.putM M x Atm.nought) := fun k => by
  rw [look_without, Atm.putM]
  split
  · rfl
  · exact h k
theorem Tells.forget (l : List ByteArray) : ∀ {L : List S98} {M : ByteArray → Atm.Had}, Tells L M → Tells (forgetF l L) (forgetM l M) := by
  induction l with
  | nil => intro L M h; exact h
  | cons x l ih => intro L M h; exact ih (h.without x)
theorem Tells.commit1 {L : List S98} {M : ByteArray → Atm.Had} (h : Tells L M) (seq : Int) (x : S101) : Tells (commit1 seq x L) (Atm.putM M x.f0 (if x.f1 then Atm.nought else (true, x.f2, seq))) := by
  unfold Lgx.commit1
  by_cases hx : x.f1 = true
  · rw [if_pos hx, if_pos hx]
    exact h.without x.f0
  · rw [if_neg hx, if_neg hx]
    intro k
    rw [look_ins seq x _ without_ne, look_without, Atm.putM]
    split
    · rename_i e
      rw [e]
    · exact h k
theorem Tells.commit (seq : Int) (l : List S101) : ∀ {L : List S98} {M : ByteArray → Atm.Had}, Tells L M → Tells (commitF seq l L) (commitM seq l M) := by
  induction l with
  | nil => intro L M h; exact h
  | cons x l ih => intro L M h; exact ih (h.commit1 seq x)
theorem Tells.step {L : List S98} {M : ByteArray → Atm.Had} (h : Tells L M) (e : S43) : Tells (stepR e L) (stepM e M) := by
  unfold stepR stepM
  split
  · exact h.commit _ _
  · split
    · exact Tells.forget _ h
    · exact h
end Go.Proofs.YtfaelejeihmgcaaDoor.Lgx
end

section
namespace Go.Proofs.YtfaelejeihmgcaaDoor.Lgx
open Go.RowKit Go.Proofs.YtfaelejeihmgcaaDoorW.PrintWords Go.Proofs.YtfaelejeihmgcaaDoorW.PrintLast
abbrev W4 := ByteArray × Bool × ByteArray × Bool
def lastW (l : List S101) (key : ByteArray) : Option S101 := l.reverse.find? fun y => y.f0.toList == key.toList
def lastT (l : List S101) (key : ByteArray) : W4 := match lastW l key with
  | some y => (y.f0, y.f1, y.f2, true)
  | none => (⟨#[]⟩, false, ⟨#[]⟩, false)
theorem lastW_snoc (l : List S101) (y : S101) (key : ByteArray) : lastW (l ++ [y]) key = if y.f0.toList = key.toList then some y else lastW l key := by
  unfold lastW
  rw [List.reverse_append, List.reverse_singleton, List.singleton_append, List.find?_cons]
  by_cases h : y.f0.toList = key.toList
  · rw [beq_iff_eq.2 h, if_pos h]
  · rw [beq_eq_false_iff_ne.2 h, if_neg h]
theorem last_l0 (l : List S101) (hl : l.length ≤ 1000) (key : ByteArray) : ∀ (d k : Nat), d ≤ l.length → d < k → ledger_last.l0 k l key ((d : Int) - 1) = some (lastT (l.take d) key) := by
  intro d
  induction d with
  | zero =>
    intro k hd hk
    obtain ⟨k, rfl⟩ : ∃ m, k = m + 1 := ⟨k - 1, by omega⟩
    simp only [ledger_last.l0]
    rw [if_neg (by omega)]
    rfl
  | succ d ih =>
    intro k hd hk
    obtain ⟨k, rfl⟩ : ∃ m, k = m + 1 := ⟨k - 1, by omega⟩
    have h1 : d < l.length := by omega
    have hr : rd_T101 l (((d + 1 : Nat) : Int) - 1) = l[d] := by rw [show ((d + 1 : Nat) : Int) - 1 = (d : Int) by omega, rd101 h1]
    simp only [ledger_last.l0]
    rw [if_pos (by omega), if_pos (by omega), if_pos (by omega), hr, List.take_succ_eq_append_getElem h1, lastT, lastW_snoc]
    split
    · rfl
    · rw [show wrap64 (((d + 1 : Nat) : Int) - 1 - 1) = (d : Int) - 1 from by rw [w64s _ (by omega) (by omega)]; omega, ih k (by omega) (by omega)]
      rfl
theorem last_f (l : List S101) (hl : l.length ≤ 1000) (key : ByteArray) (k : Nat) (hk : 1001 ≤ k) : ledger_last.f k l key = some (lastT l key) := by
  unfold ledger_last.f
  rw [w64s _ (by omega) (by omega), last_l0 l hl key l.length k (Nat.le_refl _) (by omega), List.take_length]
/-- the place of the last batch of a number among the first n events; -1 -/
def commN (P : List S43) (seq : Int) : Nat → Int
  | 0 => -1
  | n + 1 => if (rd_T43 P (n : Int)).f0 = 1 ∧ (rd_T43 P (n : Int)).f1 = seq then (n : Int) else commN P seq n
theorem comm_l0 (P : List S43) (hl : P.length ≤ 1000) (seq : Int) : ∀ (d k : Nat), d ≤ P.length → d < k → ledger_committed.l0 k P seq ((d : Int) - 1) = some (commN P seq d) := by
  intro d
  induction d with
  | zero =>
    intro k hd hk
    obtain ⟨k, rfl⟩ : ∃ m, k = m + 1 := ⟨k - 1, by omega⟩
    simp only [ledger_committed.l0]
    rw [if_neg (by omega)]
    rfl
  | succ d ih =>
    intro k hd hk
    obtain ⟨k, rfl⟩ : ∃ m, k = m + 1 := ⟨k - 1, by omega⟩
    have hr : ((d + 1 : Nat) : Int) - 1 = (d : Int) := by omega
    have e := ih k (by omega) (by omega)
    have e2 : wrap64 (((d + 1 : Nat) : Int) - 1 - 1) = (d : Int) - 1 := by rw [w64s _ (by omega) (by omega)]; omega
    simp only [ledger_committed.l0]
    rw [if_pos (by omega), if_pos (by omega), if_pos (by omega), e2, hr, commN, e]
    by_cases h1 : (rd_T43 P (d : Int)).f0 = 1
    · rw [if_pos h1]
      by_cases h2 : (rd_T43 P (d : Int)).f1 = seq
      · rw [if_pos h2, if_pos ⟨h1, h2⟩]
      · rw [if_neg h2, if_neg (fun h => h2 h.2)]
    · rw [if_neg h1, if_neg (fun h => h1 h.1)]
theorem comm_f (P : List S43) (hl : P.length ≤ 1000) (seq : Int) (k : Nat) (hk : 1001 ≤ k) : ledger_committed.f k P seq = some (commN P seq P.length) := by
  unfold ledger_committed.f
  rw [w64s _ (by omega) (by omega), comm_l0 P hl seq P.length k (Nat.le_refl _) (by omega)]
theorem commN_lt (P : List S43) (seq : Int) : ∀ n : Nat, -1 ≤ commN P seq n ∧ commN P seq n < n
  | 0 => by simp [commN]
  | n + 1 => by
    have := commN_lt P seq n
    rw [commN]
    split <;> omega
/-- does an event take the key away? -/
def delE (key : ByteArray) (e : S43) : Bool := decide (e.f0 = 1) && ((lastT e.f2 key).2.2.2 && (lastT e.f2 key).2.1)
theorem del_l0 (P : List S43) (hl : P.length ≤ 1000) (hw : ∀ e ∈ P, e.f2.length ≤ 1000) (key : ByteArray) : ∀ (d k i : Nat), P.length - i = d → i ≤ P.length → d + 1001 < k → ledger_deleted.l0 k key P (P.length : Int) (i : Int) = some ((P.drop i).any (delE key)) := by
  intro d
  induction d with
  | zero =>
    intro k i hd hi hk
    obtain ⟨k, rfl⟩ : ∃ m, k = m + 1 := ⟨k - 1, by omega⟩
    simp only [ledger_deleted.l0]
    rw [if_neg (by omega), List.drop_eq_nil_of_le (by omega)]
    rfl
  | succ d ih =>
    intro k i hd hi hk
    obtain ⟨k, rfl⟩ : ∃ m, k = m + 1 := ⟨k - 1, by omega⟩
    have h1 : i < P.length := by omega
    have e := ih k (i + 1) (by omega) (by omega) (by omega)
    simp only [ledger_deleted.l0]
    rw [if_pos (by omega), if_pos (by omega), if_pos (by omega), rd43 h1, last_f _ (hw _ (List.getElem_mem h1)) key k (by omega), w64s _ (by omega) (by omega), List.drop_eq_getElem_cons h1, List.any_cons]
    simp only [Option.bind_some]
    rw [show ((i : Int) + 1) = ((i + 1 : Nat) : Int) by omega, e]
    unfold delE
    by_cases h2 : P[i].f0 = 1
    · rw [if_pos h2, decide_eq_true h2]
      cases (lastT P[i].f2 key).2.2.2 <;> cases (lastT P[i].f2 key).2.1 <;> simp
    · rw [if_neg h2, decide_eq_false h2]
      simp
theorem del_f (P : List S43) (hl : P.length ≤ 1000) (hw : ∀ e ∈ P, e.f2.length ≤ 1000) (key : ByteArray) (k : Nat) (hk : 2010 ≤ k) : ledger_deleted.f k P key = some (P.any (delE key)) := by
  unfold ledger_deleted.f
  have h := del_l0 P hl hw key P.length k 0 (by omega) (by omega) (by omega)
  rw [List.drop_zero] at h
  exact h
/-- is an answer of an event's batch? -/
def hitE (c : S98) (e : S43) : Bool := decide (e.f0 = 1) && (if c.f1 = true then decide (e.f1 = c.f3) else ((lastT e.f2 c.f0).2.2.2 && (lastT e.f2 c.f0).2.1))
def laterB (P : List S43) (c : S98) (b at_ : Nat) : Bool := ((P.drop b).take (at_ - b)).any (hitE c)
/-- package ledger's: is another answer of the batch at b, or later? -/
def okB (P : List S43) (b : Nat) (c : S98) : Bool := !(lastT (rd_T43 P (b : Int)).f2 c.f0).2.2.2 || (if c.f1 = true then decide ((b : Int) ≤ commN P c.f3 P.length) else (P.drop b).any (delE c.f0))
def goodB (P : List S43) (b : Nat) (a : S98) : Bool := (lastT (rd_T43 P (b : Int)).f2 a.f0).2.2.2 && (!(lastT (rd_T43 P (b : Int)).f2 a.f0).2.1 && ((lastT (rd_T43 P (b : Int)).f2 a.f0).2.2.1.toList == a.f2.toList))
def wholeB (P : List S43) (a : S98) (all : List S98) : Bool := if commN P a.f3 P.length < 0 then false else goodB P (commN P a.f3 P.length).toNat a && all.all (okB P (commN P a.f3 P.length).toNat)
/-- the reference's -/
def okR2 (x : List S43) (b at_ : Nat) (c : S98) : Bool := !(lastT (rd_T43 x (b : Int)).f2 c.f0).2.2.2 || laterB x c b at_
def wholeR (x : List S43) (at_ : Nat) (a : S98) (all : List S98) : Bool := if commN x a.f3 at_ < 0 then false else goodB x (commN x a.f3 at_).toNat a && all.all (okR2 x (commN x a.f3 at_).toNat at_)
def wholeAtB (x : List S43) (at_ : Nat) : Bool := (rd_T43 x (at_ : Int)).f3.all fun a => !a.f1 || wholeR x at_ a (rd_T43 x (at_ : Int)).f3
def wholeF (x : List S43) : Nat → List S43 → Int × Bool
  | i, [] => ((i : Int), true)
  | i, e :: l => if e.f0 = 2 ∧ wholeAtB x i = false then ((i : Int), false) else wholeF x (i + 1) l
theorem rd_take (x : List S43) (i j : Nat) (h : j < i) : rd_T43 (x.take i) (j : Int) = rd_T43 x (j : Int) := by
  unfold rd_T43
  rw [Int.toNat_natCast, List.getD_eq_getElem?_getD, List.getD_eq_getElem?_getD, List.getElem?_take_of_lt h]
theorem commN_take (x : List S43) (seq : Int) (i : Nat) : ∀ n : Nat, n ≤ i → commN (x.take i) seq n = commN x seq n
  | 0, _ => rfl
  | n + 1, h => by rw [commN, commN, rd_take x i n (by omega), commN_take x seq i n (by omega)]
theorem commN_ge (x : List S43) (seq : Int) (b : Nat) : ∀ n : Nat, n ≤ x.length → ((b : Int) ≤ commN x seq n ↔ ((x.drop b).take (n - b)).any (fun e => decide (e.f0 = 1) && decide (e.f1 = seq)) = true)
  | 0, _ => by
    rw [commN]
    simp
    omega
  | n + 1, h => by
    have ih := commN_ge x seq b n (by omega)
    by_cases hb : b ≤ n
    · have hs : (x.drop b).take (n + 1 - b) = (x.drop b).take (n - b) ++ [x[n]] := by
        rw [show n + 1 - b = (n - b) + 1 by omega, List.take_succ_eq_append_getElem (by rw [List.length_drop]; omega), List.getElem_drop]
        congr 2
        simp only [show b + (n - b) = n by omega]
      rw [hs, List.any_append, Bool.or_eq_true, ← ih, commN, rd43 (show n < x.length by omega)]
      by_cases hc : x[n].f0 = 1 ∧ x[n].f1 = seq
      · rw [if_pos hc]
        simp [hc.1, hc.2]
        omega
      · rw [if_neg hc]
        have : ([x[n]].any fun e => decide (e.f0 = 1) && decide (e.f1 = seq)) = false := by
          simp only [List.any_cons, List.any_nil, Bool.or_false, Bool.and_eq_false_iff, decide_eq_false_iff_not]
          exact Classical.not_and_iff_not_or_not.1 hc
        rw [this]
        simp
    · have hl := commN_lt x seq (n + 1)
      rw [show n + 1 - b = 0 by omega]
      simp
      omega
theorem ok_eq (x : List S43) (b i : Nat) (hb : b < i) (hi : i ≤ x.length) (c : S98) : okB (x.take i) b c = okR2 x b i c := by
  unfold okB okR2 laterB
  rw [rd_take x i b hb]
  congr 1
  have hlen : (x.take i).length = i := by rw [List.length_take]; omega
  rw [hlen, commN_take x c.f3 i i (Nat.le_refl _), List.drop_take]
  split
  · rename_i h1
    have h := commN_ge x c.f3 b i hi
    rw [Bool.eq_iff_iff, decide_eq_true_iff, h]
    have : (fun e : S43 => decide (e.f0 = 1) && decide (e.f1 = c.f3)) = hitE c := by
      funext e
      unfold hitE
      rw [if_pos h1]
    rw [this]
  · rename_i h1
    have : delE c.f0 = hitE c := by
      funext e
      unfold hitE delE
      rw [if_neg h1]
    rw [this]
theorem whole_eq (x : List S43) (i : Nat) (hi : i ≤ x.length) (a : S98) (all : List S98) : wholeB (x.take i) a all = wholeR x i a all := by
  unfold wholeB wholeR
  have hlen : (x.take i).length = i := by rw [List.length_take]; omega
  rw [hlen, commN_take x a.f3 i i (Nat.le_refl _)]
  split
  · rfl
  · rename_i h
    have hlt := commN_lt x a.f3 i
    obtain ⟨b, hb⟩ : ∃ b : Nat, commN x a.f3 i = b := ⟨(commN x a.f3 i).toNat, by omega⟩
    rw [hb, Int.toNat_natCast]
    have hbi : b < i := by omega
    congr 1
    · unfold goodB
      rw [rd_take x i b hbi]
    · congr 1
      funext c
      exact ok_eq x b i hbi hi c
end Go.Proofs.YtfaelejeihmgcaaDoor.Lgx
end

section
namespace Go.Proofs.YtfaelejeihmgcaaDoor.Lgx
open Go.RowKit Go.Proofs.YtfaelejeihmgcaaDoorW.PrintWords Go.Proofs.YtfaelejeihmgcaaDoorW.PrintLast
theorem last_at (A : Option Addr) (c n : Nat) (l : List S101) (key tk : ByteArray) (td : Bool) (tv : ByteArray) (tok : Bool) (w : World) (hn : l.length = n) (hr : Kd.C k101 w A l.length l) (hc : l.length ≤ c) (hl : l.length ≤ 1000) (ht : lastT l key = (tk, td, tv, tok)) :
    Calls Tryd.prog 104 #[.slice A n c, .string key] w fun e w' => e = .returned (.tuple #[.agg #[.string tk, .bool td, .string tv], .bool tok]) ∧ Below w.heap.size w w' := by
  subst hn
  exact ledger_last.calls 1001 A c l key tk td tv tok w hr hc (by rw [last_f l hl key 1001 (by decide), ht])
theorem comm_at (A : Option Addr) (c n : Nat) (P : List S43) (seq r : Int) (w : World) (hn : P.length = n) (hr : Kd.C k43 w A P.length P) (hc : P.length ≤ c) (hl : P.length ≤ 1000) (ht : commN P seq P.length = r) :
    Calls Tryd.prog 103 #[.slice A n c, .int .u32 seq] w fun e w' => e = .returned (.int .i64 r) ∧ ∃ n, w' = w.drewN n := by
  subst hn
  exact (ledger_committed.calls 1001 A c P seq r w hr hc (by rw [comm_f P hl seq 1001 (by decide), ht])).mono fun _ _ h => ⟨h.1, h.2.out⟩
theorem del_at (A : Option Addr) (c n : Nat) (P : List S43) (key : ByteArray) (r : Bool) (w : World) (hn : P.length = n) (hr : Kd.C k43 w A P.length P) (hc : P.length ≤ c) (hl : P.length ≤ 1000) (hw : ∀ e ∈ P, e.f2.length ≤ 1000) (ht : P.any (delE key) = r) :
    Calls Tryd.prog 105 #[.slice A n c, .string key] w fun e w' => e = .returned (.bool r) ∧ Below w.heap.size w w' := by
  subst hn
  exact ledger_deleted.calls 2010 A c P key r w hr hc (by rw [del_f P hl hw key 2010 (by decide), ht])
theorem bcell {W w1 : World} (hb : Below W.heap.size W w1) : (∀ b o, b < W.heap.size → w1.cell? ⟨b, o, none⟩ = W.cell? ⟨b, o, none⟩) ∧ (∀ b o, b < W.heap.size → w1.frozen? ⟨b, o, none⟩ = W.frozen? ⟨b, o, none⟩) :=
  ⟨fun b o h => hb.cell (p := ⟨b, o, none⟩) h, fun b o h => hb.frozen (p := ⟨b, o, none⟩) h⟩
theorem set3 {W : World} {g : Nat} {a0 a1 a2 : Value} {t : TypeId} (h : W.heap[g]? = some (.cells #[a0, a1, a2] t)) (b0 b1 b2 : Value) : (((W.setCell ⟨g, 0, none⟩ b0).setCell ⟨g, 1, none⟩ b1).setCell ⟨g, 2, none⟩ b2).heap[g]? = some (.cells #[b0, b1, b2] t) := by
  simp [World.setCell, Array.getElem?_modify, h]
theorem below_set3 {B : Nat} {w W : World} {g : Nat} (hb : Below B w W) (hg : B ≤ g) (b0 b1 b2 : Value) : Below B w (((W.setCell ⟨g, 0, none⟩ b0).setCell ⟨g, 1, none⟩ b1).setCell ⟨g, 2, none⟩ b2) :=
  ((hb.setCell (p := ⟨g, 0, none⟩) hg _).setCell (p := ⟨g, 1, none⟩) hg _).setCell (p := ⟨g, 2, none⟩) hg _
def wlist (P : List S43) (b : Nat) : List S98 → Bool
  | [] => true
  | c :: l => okB P b c && wlist P b l
theorem wlist_all (P : List S43) (b : Nat) : ∀ l : List S98, wlist P b l = l.all (okB P b)
  | [] => rfl
  | c :: l => by rw [wlist, wlist_all P b l, List.all_cons]
theorem slice_tail47 (A : Option Addr) (n c j : Nat) (hj : j ≤ n) (W : World) : (Instr.slice 47 (.slice A n c) (some (.int .i64 (j : Int))) none none).run Tryd.prog W = .ok (.slice (if c = j then A else A.map (·.add (j * 5))) (n - j) (c - j)) W := by
  rw [run_slice_l W 47 A n c (by kernel_rfl) .i64 (j : Int) (by omega) (by omega)]
  go_simp
set_option maxHeartbeats 8000000 in
set_option maxRecDepth 100000 in
theorem ledger_whole_walk (A : Option Addr) (c : Nat) (P : List S43) (ak : ByteArray) (ai : Bool) (av : ByteArray) (af : Int) (A2 : Option Addr) (c2 : Nat) (all : List S98) (w : World) (hC : Kd.C k43 w A P.length P) (hc : P.length ≤ c) (hP : P.length ≤ 1000) (hw : ∀ e ∈ P, e.f2.length ≤ 1000)
    (hC2 : Kd.C k98 w A2 all.length all) (hall : all.length ≤ 1000) :
    Calls Tryd.prog 79 #[.slice A P.length c, .agg #[.string ak, .bool ai, .string av, .int .u32 af], .slice A2 all.length c2] w fun e w' => e = .returned (.bool (wholeB P ⟨ak, ai, av, af⟩ all)) ∧ Below w.heap.size w w' := by
  have HW := Lib.hid hw
  have Hc := Lib.hid hc
  obtain ⟨n, hn⟩ : ∃ n, P.length = n := ⟨_, rfl⟩
  have Hn := Lib.hid hn
  obtain ⟨at_, hat⟩ : ∃ r, commN P af P.length = r := ⟨_, rfl⟩
  have hlt := commN_lt P af P.length
  rw [hat] at hlt
  have Hat := Lib.hid hat
  have hb1 := below_alloc (Below.refl _ w) (.cells #[.string ak, .bool ai, .string av, .int .u32 af] 98)
  have hz := heap_alloc_new w (.cells #[.string ak, .bool ai, .string av, .int .u32 af] 98)
  have hlt1 : w.heap.size < (w.alloc (.cells #[.string ak, .bool ai, .string av, .int .u32 af] 98)).heap.size := by simp
  have hnP : n ≤ 1000 := by omega
  rw [hn] at hlt
  have comm := fun W (h : Below w.heap.size w W) => comm_at A c n P af at_ W Hn.out (Kd.C_below hC h) Hc.out hP Hat.out
  rw [hn]
  clear hn hat hw hc hP
  by_cases hneg : at_ < 0
  · have hr : wholeB P ⟨ak, ai, av, af⟩ all = false := by unfold wholeB; rw [Hat.out, if_pos hneg]
    rw [hr]
    have d1 : decide (at_ < 0) = true := decide_eq_true hneg
    go_enter Tryd.func79, Tryd.ntmps79
    go_wp2_with fail
    generalize w.alloc (.cells #[.string ak, .bool ai, .string av, .int .u32 af] 98) = w1 at hb1 hz hlt1 ⊢
    refine (comm w1 hb1).mono ?_
    rintro e w2 ⟨rfl, q, rfl⟩
    go_wp2
    go_ret
    exact ⟨rfl, pw_below_drewN hb1 q⟩
  · obtain ⟨b, rfl⟩ : ∃ b : Nat, at_ = b := ⟨at_.toNat, by omega⟩
    have hbn : b < n := by omega
    have d1 : decide ((b : Int) < 0) = false := decide_eq_false (by omega)
    obtain ⟨ad, A4, c4, A5, c5, A6, c6, e, x0, x1, x2, x3, x4, l2, g2, l3, g3, l4, g4⟩ := at_T43 hC b (by omega) (by rw [Hn.out]; omega)
    cases e
    have hwl : (rd_T43 P (b : Int)).f2.length ≤ 1000 := by
      have hbP : b < P.length := by rw [Hn.out]; exact hbn
      rw [rd43 hbP]
      exact HW.out _ (List.getElem_mem hbP)
    clear x0 x1 x3 x4 l3 g3 l4 g4
    simp only [Int.toNat_natCast] at x2
    obtain ⟨⟨tk, td, tv, tok⟩, ht⟩ : ∃ t, lastT (rd_T43 P (b : Int)).f2 ak = t := ⟨_, rfl⟩
    have hr : wholeB P ⟨ak, ai, av, af⟩ all = ((tok && (!td && (tv.toList == av.toList))) && wlist P b all) := by
      unfold wholeB goodB
      rw [Hat.out, if_neg hneg, Int.toNat_natCast, wlist_all]
      simp only [ht]
    rw [hr]
    obtain ⟨ws, hws⟩ : ∃ ws, ws = (rd_T43 P (b : Int)).f2 := ⟨_, rfl⟩
    rw [← hws] at x2 l2 g2 hwl ht
    obtain ⟨nw, hnw⟩ : ∃ nw, ws.length = nw := ⟨_, rfl⟩
    have Hws := Lib.hid hws
    have Hnw := Lib.hid hnw
    have Ht := Lib.hid ht
    have Hl2 := Lib.hid l2
    have Hwl := Lib.hid hwl
    rw [hnw] at x2
    have last := fun (key tk : ByteArray) (td : Bool) (tv : ByteArray) (tok : Bool) (W : World) (h : Below w.heap.size w W) (ht : lastT ws key = (tk, td, tv, tok)) => last_at A4 c4 nw ws key tk td tv tok W Hnw.out (Kd.C_below g2 h) Hl2.out Hwl.out ht
    clear hr hws hnw ht l2 hwl hlt hneg
    have hzk := hlt1
    go_enter Tryd.func79, Tryd.ntmps79
    go_wp2_with fail
    generalize w.alloc (.cells #[.string ak, .bool ai, .string av, .int .u32 af] 98) = w1 at hb1 hz hlt1 hzk ⊢
    have y0 : w1.cell? ⟨w.heap.size, 0, none⟩ = some (.string ak) := Lib.cell_of_heap hz 0
    have y2 : w1.cell? ⟨w.heap.size, 2, none⟩ = some (.string av) := Lib.cell_of_heap hz 2
    have x2w := x2
    replace x2 := (hb1.cell (World.block_lt_of_cell? w _ x2)).trans x2
    refine (comm w1 hb1).mono ?_
    rintro e w2 ⟨rfl, q, rfl⟩
    have hb2 := pw_below_drewN hb1 q
    have hb12 := pw_below_drewN (Below.refl w1.heap.size w1) q
    generalize w1.drewN q = w2 at hb2 hb12 ⊢
    have c0 : w2.cell? ⟨(ad.add (b * 5)).block, (ad.add (b * 5)).off + 2, none⟩ = some (.slice A4 nw c4) := (hb12.cell (World.block_lt_of_cell? w1 _ x2)).trans x2
    have c1 : w2.cell? ⟨w.heap.size, 0, none⟩ = some (.string ak) := (hb12.cell (World.block_lt_of_cell? w1 _ y0)).trans y0
    have c3 : w2.cell? ⟨w.heap.size, 2, none⟩ = some (.string av) := (hb12.cell (World.block_lt_of_cell? w1 _ y2)).trans y2
    clear x2 y0 y2 hz
    have zz : ∀ W, Below w2.heap.size w2 W → W.cell? ⟨(ad.add (b * 5)).block, (ad.add (b * 5)).off + 2, none⟩ = some (.slice A4 nw c4) ∧ W.cell? ⟨w.heap.size, 0, none⟩ = some (.string ak) ∧ W.cell? ⟨w.heap.size, 2, none⟩ = some (.string av) := fun W hW =>
      ⟨(hW.cell (World.block_lt_of_cell? w2 _ c0)).trans c0, (hW.cell (World.block_lt_of_cell? w2 _ c1)).trans c1, (hW.cell (World.block_lt_of_cell? w2 _ c3)).trans c3⟩
    have step : ∀ (key tk : ByteArray) (td : Bool) (tv : ByteArray) (tok : Bool) (W : World), Below w2.heap.size w2 W → lastT ws key = (tk, td, tv, tok) → Calls Tryd.prog 104 #[.slice A4 nw c4, .string key] W fun e w' => e = .returned (.tuple #[.agg #[.string tk, .bool td, .string tv], .bool tok]) ∧ Below w2.heap.size w2 w' ∧ Below W.heap.size W w' := fun key tk td tv tok W hW ht =>
      (last key tk td tv tok W (below_then hb2 hb2.size hW) ht).mono fun _ _ h => ⟨h.1, below_then hW hW.size h.2, h.2⟩
    clear last comm
    go_upto_region 4 with (fail)
    go_cut [8, 9] (fun v8 v9 wc => ∃ g : Nat, v8 = .pointer (some ⟨g, 0, none⟩) ∧ v9 = .bool tok ∧ wc.heap[g]? = some (.cells #[.string tk, .bool td, .string tv] 101) ∧ w2.heap.size ≤ g ∧ Below w2.heap.size w2 wc)
    case first =>
      go_wp2_with fail
      go_region_held3 (fun W => W.cell? ⟨(ad.add (b * 5)).block, (ad.add (b * 5)).off + 2, none⟩ = some (.slice A4 nw c4) ∧ W.cell? ⟨w.heap.size, 0, none⟩ = some (.string ak) ∧ W.cell? ⟨w.heap.size, 2, none⟩ = some (.string av)) (exact zz _ (by repeat (first | assumption | exact Below.refl _ _ | exact below_set3 (by assumption) (Nat.le_refl _) _ _ _ | apply below_drew | apply below_alloc)))
        ((go_at_call 104; refine (step ak tk td tv tok _ (by repeat (first | assumption | exact Below.refl _ _ | exact below_set3 (by assumption) (Nat.le_refl _) _ _ _ | apply below_drew | apply below_alloc)) Ht.out).mono ?_; rintro e w5 ⟨rfl, hb5, hbW⟩; obtain ⟨hcb, hfb⟩ := bcell hbW))
      all_goals (
        go_wp2_with fail
        go_meet
        case rel => first
          | exact ⟨_, rfl, rfl, heap_alloc_new _ _, hb5.size, below_alloc hb5 _⟩
          | exact ⟨_, rfl, rfl, set3 ((hbW.block w2.heap.size (by simp)).trans (heap_alloc_new w2.drew _)) _ _ _, Nat.le_refl _, below_set3 hb5 (Nat.le_refl _) _ _ _⟩)
    case rest =>
      obtain ⟨g, rfl, rfl, hg, hgl, hb5⟩ := hcut
      have hbw := below_then hb2 hb2.size hb5
      have t1 : wc.cell? ⟨g, 1, none⟩ = some (.bool td) := Lib.cell_of_heap hg 1
      have t2 : wc.cell? ⟨g, 2, none⟩ = some (.string tv) := Lib.cell_of_heap hg 2
      have t3 := (zz wc hb5).2.2
      clear zz step hg
      cases tok
      · go_wp2
        go_ret
        exact ⟨by simp, hbw⟩
      · cases td
        rotate_left
        · go_wp2
          go_ret
          exact ⟨by simp, hbw⟩
        · by_cases hv : tv.toList = av.toList
          rotate_left
          · have v1 : (tv.toList == av.toList) = false := beq_eq_false_iff_ne.2 hv
            have v2 : (tv.toList != av.toList) = true := bne_iff_ne.2 hv
            clear hv
            go_wp2
            go_ret
            exact ⟨by simp [v1], hbw⟩
          · have v1 : (tv.toList == av.toList) = true := beq_iff_eq.2 hv
            have v2 : (tv.toList != av.toList) = false := bne_eq_false_iff_eq.2 hv
            have V1 := Lib.hid v1
            clear hv c0 c1 c3
            go_wp2_with fail
            go_loopw [46] (fun i wr => ∃ j : Nat, j ≤ all.length ∧ i = .int .i64 j ∧ Below w.heap.size w wr ∧ Aside0 (wlist P b (all.drop j) = wlist P b all)) (fun i _ => all.length - (intOf i).toNat)
            case atStart => exact ⟨0, Nat.zero_le _, rfl, hbw, ⟨by rw [List.drop_zero]⟩⟩
            case round =>
              clear hbw hb5 hb2 hb12 hb1 t1 t2 t3 v1 v2
              obtain ⟨j, hjl, rfl, hb, hq⟩ := hrel
              by_cases hlj : j < all.length
              · obtain ⟨ad2, e2, y0, y1, y2, y3⟩ := at_T98 hC2 j (by omega) (by omega)
                cases e2
                rw [rd98 hlj] at y0 y1 y2 y3
                simp only [Int.toNat_natCast] at y0 y1 y2 y3
                have hsn : wlist P b (all.drop j) = (okB P b all[j] && wlist P b (all.drop (j + 1))) := by rw [List.drop_eq_getElem_cons hlj, wlist]
                obtain ⟨x, hx⟩ : ∃ x, x = all[j] := ⟨_, rfl⟩
                rw [← hx] at y0 y1 y2 y3 hsn
                clear hx
                obtain ⟨ck, ci, cv, cf⟩ := x
                replace y0 := (hb.cell (World.block_lt_of_cell? w _ y0)).trans y0
                replace y1 := (hb.cell (World.block_lt_of_cell? w _ y1)).trans y1
                replace y2 := (hb.cell (World.block_lt_of_cell? w _ y2)).trans y2
                replace y3 := (hb.cell (World.block_lt_of_cell? w _ y3)).trans y3
                have c0 := (hb.cell (World.block_lt_of_cell? w _ x2w)).trans x2w
                obtain ⟨⟨sk, sd, sv, sok⟩, hs⟩ : ∃ t, lastT ws ck = t := ⟨_, rfl⟩
                obtain ⟨r, hr⟩ : ∃ r, commN P cf P.length = r := ⟨_, rfl⟩
                obtain ⟨dl, hdl⟩ : ∃ dl, (P.drop b).any (delE ck) = dl := ⟨_, rfl⟩
                have hok : okB P b ⟨ck, ci, cv, cf⟩ = (!sok || (if ci = true then decide ((b : Int) ≤ r) else dl)) := by
                  unfold okB
                  simp only [← Hws.out, hs, hr, hdl]
                rw [hok] at hsn
                have hqn := hq.out
                rw [hsn] at hqn
                have Hqn := Lib.hid hqn
                have Hs := Lib.hid hs
                have Hr := Lib.hid hr
                have Hdl := Lib.hid hdl
                clear hok hsn hq hqn hs hr hdl
                have b9 := below_alloc hb (.cells #[.string ck, .bool ci, .string cv, .int .u32 cf] 98)
                have h9 := heap_alloc_new wr (.cells #[.string ck, .bool ci, .string cv, .int .u32 cf] 98)
                have c9 := (below_alloc (Below.refl wr.heap.size wr) (.cells #[.string ck, .bool ci, .string cv, .int .u32 cf] 98)).cell (World.block_lt_of_cell? wr _ c0) |>.trans c0
                go_upto_region 10 with (fail)
                generalize wr.alloc (.cells #[.string ck, .bool ci, .string cv, .int .u32 cf] 98) = w9 at b9 h9 c9 ⊢
                have k0 : w9.cell? ⟨wr.heap.size, 0, none⟩ = some (.string ck) := Lib.cell_of_heap h9 0
                have k1 : w9.cell? ⟨wr.heap.size, 1, none⟩ = some (.bool ci) := Lib.cell_of_heap h9 1
                have k3 : w9.cell? ⟨wr.heap.size, 3, none⟩ = some (.int .u32 cf) := Lib.cell_of_heap h9 3
                clear h9 y0 y1 y2 y3 c0
                go_cut [13] (fun v13 wc => v13 = .bool sok ∧ Below w9.heap.size w9 wc)
                case first =>
                  have zz : ∀ W, Below w9.heap.size w9 W → W.cell? ⟨(ad.add (b * 5)).block, (ad.add (b * 5)).off + 2, none⟩ = some (.slice A4 nw c4) ∧ W.cell? ⟨wr.heap.size, 0, none⟩ = some (.string ck) := fun W hW =>
                    ⟨(hW.cell (World.block_lt_of_cell? w9 _ c9)).trans c9, (hW.cell (World.block_lt_of_cell? w9 _ k0)).trans k0⟩
                  have step : ∀ (key tk : ByteArray) (td : Bool) (tv : ByteArray) (tok : Bool) (W : World), Below w9.heap.size w9 W → lastT ws key = (tk, td, tv, tok) → Calls Tryd.prog 104 #[.slice A4 nw c4, .string key] W fun e w' => e = .returned (.tuple #[.agg #[.string tk, .bool td, .string tv], .bool tok]) ∧ Below w9.heap.size w9 w' ∧ Below W.heap.size W w' := fun key tk td tv tok W hW ht =>
                    (last_at A4 c4 nw ws key tk td tv tok W Hnw.out (Kd.C_below g2 (below_then b9 b9.size hW)) Hl2.out Hwl.out ht).mono fun _ _ h => ⟨h.1, below_then hW hW.size h.2, h.2⟩
                  go_wp2_with fail
                  go_region_held3 (fun W => W.cell? ⟨(ad.add (b * 5)).block, (ad.add (b * 5)).off + 2, none⟩ = some (.slice A4 nw c4) ∧ W.cell? ⟨wr.heap.size, 0, none⟩ = some (.string ck)) (exact zz _ (by repeat (first | assumption | exact Below.refl _ _ | exact below_set3 (by assumption) (Nat.le_refl _) _ _ _ | apply below_drew | apply below_alloc)))
                    ((go_at_call 104; refine (step ck sk sd sv sok _ (by repeat (first | assumption | exact Below.refl _ _ | exact below_set3 (by assumption) (Nat.le_refl _) _ _ _ | apply below_drew | apply below_alloc)) Hs.out).mono ?_; rintro e w5 ⟨rfl, hb5, hbW⟩; obtain ⟨hcb, hfb⟩ := bcell hbW))
                  all_goals (
                    go_wp2_with fail
                    go_meet
                    case rel => first
                      | exact ⟨rfl, below_alloc hb5 _⟩
                      | exact ⟨rfl, below_set3 hb5 (Nat.le_refl _) _ _ _⟩)
                case rest =>
                  obtain ⟨rfl, hb5⟩ := hcut
                  have hbw := below_then b9 b9.size hb5
                  replace k0 := (hb5.cell (World.block_lt_of_cell? w9 _ k0)).trans k0
                  replace k1 := (hb5.cell (World.block_lt_of_cell? w9 _ k1)).trans k1
                  replace k3 := (hb5.cell (World.block_lt_of_cell? w9 _ k3)).trans k3
                  clear c9 b9 hb5
                  cases sok
                  · go_wp2
                    go_roundw
                    case rel => exact ⟨j + 1, hlj, by simp, hbw, ⟨by have h := Hqn.out; simpa using h⟩⟩
                    case measure => simp [intOf]; omega
                  · cases ci
                    · have hsl : ∃ TA, (if c = b then some ad else (some ad).map (·.add (b * 5))) = TA := ⟨_, rfl⟩
                      obtain ⟨TA, hTA⟩ := hsl
                      have hsl : ∀ W, (Instr.slice 47 (.slice (some ad) n c) (some (.int .i64 (b : Int))) none none).run Tryd.prog W = .ok (.slice TA (n - b) (c - b)) W := fun W => by rw [← hTA]; exact slice_tail47 (some ad) n c b (by omega) W
                      have hCd : Kd.C k43 w TA (P.drop b).length (P.drop b) := by rw [← hTA]; exact Kd.C_drop hC (by rw [Hn.out]; omega) Hc.out
                      have hdn : (P.drop b).length = n - b := by rw [List.length_drop, Hn.out]
                      have step : ∀ W, Below wc.heap.size wc W → Calls Tryd.prog 105 #[.slice TA (n - b) (c - b), .string ck] W fun e w' => e = .returned (.bool dl) ∧ Below wc.heap.size wc w' := fun W hW =>
                        (del_at TA (c - b) (n - b) (P.drop b) ck dl W hdn (Kd.C_below hCd (below_then hbw hbw.size hW)) (by rw [hdn]; have := Hc.out; rw [Hn.out] at this; omega) (by rw [hdn]; omega) (fun e he => HW.out e (List.mem_of_mem_drop he)) Hdl.out).mono fun _ _ h => ⟨h.1, below_then hW hW.size h.2⟩
                      have zz : ∀ W, Below wc.heap.size wc W → W.cell? ⟨wr.heap.size, 0, none⟩ = some (.string ck) ∧ W.cell? ⟨wr.heap.size, 1, none⟩ = some (.bool false) := fun W hW =>
                        ⟨(hW.cell (World.block_lt_of_cell? wc _ k0)).trans k0, (hW.cell (World.block_lt_of_cell? wc _ k1)).trans k1⟩
                      clear hTA hdn hCd
                      go_upto_region 12 with (fail)
                      go_still_tail 20, (by kernel_rfl)
                      change wpList _ _ _ _ _ wc.drew
                      go_wp2_with fail
                      refine (step _ (below_drew (Below.refl _ _))).mono ?_
                      rintro e w6 ⟨rfl, hb6⟩
                      have hbx := below_then hbw hbw.size hb6
                      clear step zz hsl k0 k1 k3
                      cases dl
                      · go_wp2
                        go_ret
                        exact ⟨by have h := Hqn.out; rw [← h, V1.out]; rfl, hbx⟩
                      · go_wp2
                        go_roundw
                        case rel => exact ⟨j + 1, hlj, by simp, hbx, ⟨by have h := Hqn.out; simpa using h⟩⟩
                        case measure => simp [intOf]; omega
                    · have cm := fun W (h : Below w.heap.size w W) => comm_at (some ad) c n P cf r W Hn.out (Kd.C_below hC h) Hc.out (by rw [Hn.out]; exact hnP) Hr.out
                      by_cases hrb : r < b
                      · have v3 : decide (r < (b : Int)) = true := decide_eq_true hrb
                        go_upto_region 12 with (fail)
                        go_quiet ((go_at_call 103; exact Calls.quiet_of (cm _ (pw_below_drewN hbw _))))
                        go_wp2
                        go_ret
                        exact ⟨by have h := Hqn.out; rw [← h, V1.out, decide_eq_false (by omega)]; rfl, pw_below_drewN hbw _⟩
                      · have v3 : decide (r < (b : Int)) = false := decide_eq_false hrb
                        go_upto_region 12 with (fail)
                        go_quiet ((go_at_call 103; exact Calls.quiet_of (cm _ (pw_below_drewN hbw _))))
                        go_wp2
                        go_roundw
                        case rel => exact ⟨j + 1, hlj, by simp, pw_below_drewN hbw _, ⟨by have h := Hqn.out; rw [decide_eq_true (by omega)] at h; simpa using h⟩⟩
                        case measure => simp [intOf]; omega
              · have hje : j = all.length := by omega
                subst hje
                have hq2 := hq.out
                rw [List.drop_length] at hq2
                have Hq2 := Lib.hid hq2
                clear hq hq2
                go_wp2
                go_ret
                exact ⟨by rw [← Hq2.out, V1.out]; rfl, hb⟩
end Go.Proofs.YtfaelejeihmgcaaDoor.Lgx
end

section
namespace Go.Proofs.YtfaelejeihmgcaaDoor.Lgx
open Go.RowKit Go.Proofs.YtfaelejeihmgcaaDoorW.PrintWords Go.Proofs.YtfaelejeihmgcaaDoorW.PrintLast
theorem whole_at (A : Option Addr) (c n : Nat) (P : List S43) (ak : ByteArray) (ai : Bool) (av : ByteArray) (af : Int) (A2 : Option Addr) (c2 : Nat) (all : List S98) (r : Bool) (w : World) (hn : P.length = n) (hC : Kd.C k43 w A P.length P) (hc : P.length ≤ c) (hP : P.length ≤ 1000) (hw : ∀ e ∈ P, e.f2.length ≤ 1000)
    (hC2 : Kd.C k98 w A2 all.length all) (hall : all.length ≤ 1000) (hr : wholeB P ⟨ak, ai, av, af⟩ all = r) :
    Calls Tryd.prog 79 #[.slice A n c, .agg #[.string ak, .bool ai, .string av, .int .u32 af], .slice A2 all.length c2] w fun e w' => e = .returned (.bool r) ∧ Below w.heap.size w w' := by
  subst hn
  rw [← hr]
  exact ledger_whole_walk A c P ak ai av af A2 c2 all w hC hc hP hw hC2 hall
theorem slice_head47w (A : Option Addr) (n c j : Nat) (hj : j ≤ n) (hc : n ≤ c) (W : World) : (Instr.slice 47 (.slice A n c) none (some (.int .i64 (j : Int))) none).run Tryd.prog W = .ok (.slice A j c) W := by
  have hjc : j ≤ c := by omega
  go_simp
def llist (P : List S43) (all : List S98) : List S98 → Bool
  | [] => true
  | a :: l => (!a.f1 || wholeB P a all) && llist P all l
theorem llist_all (P : List S43) (all : List S98) : ∀ l : List S98, llist P all l = l.all (fun a => !a.f1 || wholeB P a all)
  | [] => rfl
  | c :: l => by rw [llist, llist_all P all l, List.all_cons]
set_option maxHeartbeats 16000000 in
set_option maxRecDepth 100000 in
theorem ledger_Whole_walk (A : Option Addr) (c : Nat) (x : List S43) (r1 : Int) (r2 : Bool) (w : World) (hC : Kd.C k43 w A x.length x) (hc : x.length ≤ c) (hx : x.length ≤ 1000) (hw : ∀ e ∈ x, e.f2.length ≤ 1000) (hw3 : ∀ e ∈ x, e.f3.length ≤ 1000) (hr : wholeF x 0 x = (r1, r2)) :
    Calls Tryd.prog 40 #[.slice A x.length c] w fun e w' => e = .returned (.tuple #[.int .i64 r1, .bool r2]) ∧ Below w.heap.size w w' := by
  have HW := Lib.hid hw
  have HW3 := Lib.hid hw3
  have Hc := Lib.hid hc
  have HR := Lib.hid hr
  clear hw hw3 hc hr
  go_enter Tryd.func40, Tryd.ntmps40
  go_wp2_with fail
  go_loopw [10] (fun i wr => ∃ k : Nat, k ≤ x.length ∧ i = .int .i64 k ∧ Below w.heap.size w wr ∧ Aside0 (wholeF x k (x.drop k) = (r1, r2))) (fun i _ => x.length - (intOf i).toNat)
  case atStart => exact ⟨0, Nat.zero_le _, rfl, Below.refl _ _, ⟨by rw [List.drop_zero]; exact HR.out⟩⟩
  case round =>
    clear HR
    obtain ⟨k, hkl, rfl, hb, hq⟩ := hrel
    by_cases hlt : k < x.length
    · obtain ⟨ad, A4, c4, A5, c5, A6, c6, e, x0, x1, x2, x3, x4, l2, g2, l3, g3, l4, g4⟩ := at_T43 hC k (by omega) (by omega)
      cases e
      have hsn : wholeF x k (x.drop k) = if x[k].f0 = 2 ∧ wholeAtB x k = false then ((k : Int), false) else wholeF x (k + 1) (x.drop (k + 1)) := by rw [List.drop_eq_getElem_cons hlt, wholeF]
      have hwa : wholeAtB x k = llist (x.take k) x[k].f3 x[k].f3 := by
        unfold wholeAtB
        rw [llist_all, rd43 hlt]
        congr 1
        funext a
        rw [whole_eq x k (by omega)]
      have hl3 := HW3.out _ (List.getElem_mem hlt)
      rw [rd43 hlt] at x0 x1 x2 x3 x4 l2 g2 l3 g3 l4 g4
      rw [hwa] at hsn
      obtain ⟨y, hy⟩ : ∃ y, y = x[k] := ⟨_, rfl⟩
      rw [← hy] at x0 x1 x2 x3 x4 l2 g2 l3 g3 l4 g4 hsn hl3
      have hqn := hq.out
      rw [hsn] at hqn
      have Hqn := Lib.hid hqn
      clear hy hwa hsn hq hqn
      simp only [Int.toNat_natCast] at x0 x1 x2 x3 x4
      replace x0 := (hb.cell (World.block_lt_of_cell? w _ x0)).trans x0
      replace x1 := (hb.cell (World.block_lt_of_cell? w _ x1)).trans x1
      replace x2 := (hb.cell (World.block_lt_of_cell? w _ x2)).trans x2
      replace x3 := (hb.cell (World.block_lt_of_cell? w _ x3)).trans x3
      replace x4 := (hb.cell (World.block_lt_of_cell? w _ x4)).trans x4
      have HL2 := Lib.hid l2
      have HL3 := Lib.hid l3
      have HL4 := Lib.hid l4
      clear l2 l3 l4
      obtain ⟨yk, ys, yw, ya, yy⟩ := y
      by_cases h2 : yk = 2
      · subst h2
        have t1 : ((2 : Int) != 2) = false := by decide
        obtain ⟨O, hO⟩ : ∃ O : Obj, O = Obj.cells #[.int .i64 2, .int .u32 ys, .slice A4 yw.length c4, .slice A5 ya.length c5, .slice A6 yy.length c6] 43 := ⟨_, rfl⟩
        go_wp2_with fail
        rw [← hO]
        have hb0 := below_alloc hb O
        have z3 : (wr.alloc O).cell? ⟨wr.heap.size, 3, none⟩ = some (.slice A5 ya.length c5) := by
          have h := Lib.cell_of_heap (heap_alloc_new wr (Obj.cells #[.int .i64 2, .int .u32 ys, .slice A4 yw.length c4, .slice A5 ya.length c5, .slice A6 yy.length c6] 43)) 3
          rw [hO, h]
          rfl
        clear hO x0 x1 x2 x3 x4 g2 g4
        obtain ⟨wo, hwo⟩ : ∃ wo : Nat, wo = wr.heap.size := ⟨_, rfl⟩
        rw [← hwo] at z3 ⊢
        generalize wr.alloc O = W0 at hb0 z3 ⊢
        clear hwo
        go_loopw [21] (fun i wi => ∃ j : Nat, j ≤ ya.length ∧ i = .int .i64 j ∧ Below W0.heap.size W0 wi ∧ Aside0 (llist (x.take k) ya (ya.drop j) = llist (x.take k) ya ya)) (fun i _ => ya.length - (intOf i).toNat)
        case atStart => exact ⟨0, Nat.zero_le _, rfl, Below.refl _ _, ⟨by rw [List.drop_zero]⟩⟩
        case round =>
          obtain ⟨j, hjl, rfl, hbi, hq⟩ := hrel
          have hbm : Below w.heap.size w wr := below_then hb0 hb0.size hbi
          have z4 := (hbi.cell (World.block_lt_of_cell? W0 _ z3)).trans z3
          by_cases hlj : j < ya.length
          · obtain ⟨ad3, e3, y0, y1, y2, y3⟩ := at_T98 g3 j (by omega) (by omega)
            cases e3
            rw [rd98 hlj] at y0 y1 y2 y3
            simp only [Int.toNat_natCast] at y0 y1 y2 y3
            replace y0 := (hbm.cell (World.block_lt_of_cell? w _ y0)).trans y0
            replace y1 := (hbm.cell (World.block_lt_of_cell? w _ y1)).trans y1
            replace y2 := (hbm.cell (World.block_lt_of_cell? w _ y2)).trans y2
            replace y3 := (hbm.cell (World.block_lt_of_cell? w _ y3)).trans y3
            have hsn : llist (x.take k) ya (ya.drop j) = ((!ya[j].f1 || wholeB (x.take k) ya[j] ya) && llist (x.take k) ya (ya.drop (j + 1))) := by rw [List.drop_eq_getElem_cons hlj, llist]
            obtain ⟨z, hz⟩ : ∃ z, z = ya[j] := ⟨_, rfl⟩
            rw [← hz] at y0 y1 y2 y3 hsn
            clear hz
            obtain ⟨ak, ai, av, af⟩ := z
            obtain ⟨v, hv⟩ : ∃ v, wholeB (x.take k) ⟨ak, ai, av, af⟩ ya = v := ⟨_, rfl⟩
            have hqn := hq.out
            rw [hsn, hv] at hqn
            have Hq2 := Lib.hid hqn
            have Hv := Lib.hid hv
            clear hsn hq hqn hv
            have b9 := below_alloc hbi (.cells #[.string ak, .bool ai, .string av, .int .u32 af] 98)
            have h9 := heap_alloc_new wr (.cells #[.string ak, .bool ai, .string av, .int .u32 af] 98)
            have z5 := ((below_alloc (Below.refl wr.heap.size wr) (.cells #[.string ak, .bool ai, .string av, .int .u32 af] 98)).cell (World.block_lt_of_cell? wr _ z4)).trans z4
            cases ai
            · go_upto_region 8 with (fail)
              go_quiet (fail)
              clear y0 y1 y2 y3
              go_wp2
              go_roundw
              case rel => exact ⟨j + 1, hlj, by simp, pw_below_drewN b9 _, ⟨by have h := Hq2.out; simpa using h⟩⟩
              case measure => simp [intOf]; omega
            · have hCt := Kd.C_take hC hkl
              have htl : (x.take k).length = k := by rw [List.length_take]; omega
              have hkc : k ≤ c := Nat.le_trans hkl Hc.out
              have hsl : ∀ W, (Instr.slice 47 (.slice (some ad) x.length c) none (some (.int .i64 (k : Int))) none).run Tryd.prog W = .ok (.slice (some ad) k c) W := fun W => slice_head47w (some ad) x.length c k hkl Hc.out W
              have step : ∀ W, Below w.heap.size w W → Calls Tryd.prog 79 #[.slice (some ad) k c, .agg #[.string ak, .bool true, .string av, .int .u32 af], .slice (some ad3) ya.length c5] W fun e w' => e = .returned (.bool v) ∧ Below W.heap.size W w' := fun W hW =>
                whole_at (some ad) c k (x.take k) ak true av af (some ad3) c5 ya v W htl (Kd.C_below hCt hW) (by rw [htl]; exact hkc) (by rw [htl]; omega) (fun e he => HW.out e (List.mem_of_mem_take he)) (Kd.C_below g3 hW) hl3 Hv.out
              clear hCt htl
              go_upto_region 8 with (fail)
              generalize wr.alloc (.cells #[.string ak, .bool true, .string av, .int .u32 af] 98) = w9 at b9 h9 z5 ⊢
              have k0 : w9.cell? ⟨wr.heap.size, 0, none⟩ = some (.string ak) := Lib.cell_of_heap h9 0
              have k1 : w9.cell? ⟨wr.heap.size, 1, none⟩ = some (.bool true) := Lib.cell_of_heap h9 1
              have k2 : w9.cell? ⟨wr.heap.size, 2, none⟩ = some (.string av) := Lib.cell_of_heap h9 2
              have k3 : w9.cell? ⟨wr.heap.size, 3, none⟩ = some (.int .u32 af) := Lib.cell_of_heap h9 3
              have hbx := below_then hb0 hb0.size b9
              clear h9 y0 y1 y2 y3 z4
              go_still_tail 9, (by kernel_rfl)
              change wpList _ _ _ _ _ w9.drew
              go_wp2_with fail
              refine (step _ (below_drew hbx)).mono ?_
              rintro e w6 ⟨rfl, hb6⟩
              have hb9 : Below W0.heap.size W0 w6 := below_then (below_drew b9) (below_drew b9).size hb6
              clear step hsl k0 k1 k2 k3 z5 hb6
              cases v
              · go_wp2
                go_ret2
                exact ⟨by have h := Hqn.out; rw [if_pos ⟨trivial, by rw [← Hq2.out]; rfl⟩] at h; simp only [Prod.mk.injEq] at h; obtain ⟨rfl, rfl⟩ := h; rfl, below_then hb0 hb0.size hb9⟩
              · go_wp2
                go_roundw
                case rel => exact ⟨j + 1, hlj, by simp, hb9, ⟨by have h := Hq2.out; simpa using h⟩⟩
                case measure => simp [intOf]; omega
          · have hje : j = ya.length := by omega
            subst hje
            have hq2 := hq.out
            rw [List.drop_length] at hq2
            have Hq2 := Lib.hid hq2
            clear hq hq2 z4
            go_wp2
            go_roundw
            case rel => exact ⟨k + 1, hlt, by simp, hbm, ⟨by have h := Hqn.out; rw [if_neg (by rw [← Hq2.out]; simp [llist])] at h; exact h⟩⟩
            case measure => simp [intOf]; omega
      · have t1 : (yk != 2) = true := bne_iff_ne.2 h2
        have hbx := below_alloc hb (.cells #[.int .i64 yk, .int .u32 ys, .slice A4 yw.length c4, .slice A5 ya.length c5, .slice A6 yy.length c6] 43)
        have Hn2 := Lib.hid h2
        clear h2
        go_wp2
        go_roundw
        case rel => exact ⟨k + 1, hlt, by simp, hbx, ⟨by have h := Hqn.out; rw [if_neg (fun h' => Hn2.out h'.1)] at h; exact h⟩⟩
        case measure => simp [intOf]; omega
    · have hke : k = x.length := by omega
      subst hke
      have hqs := hq.out
      rw [List.drop_length, wholeF] at hqs
      simp only [Prod.mk.injEq] at hqs
      obtain ⟨rfl, rfl⟩ := hqs
      clear hq
      go_wp2
      go_ret2
      exact ⟨rfl, hb⟩
end Go.Proofs.YtfaelejeihmgcaaDoor.Lgx
end

section
namespace Go.Proofs.YtfaelejeihmgcaaDoor.Lgx
open Go.RowKit Go.Proofs.YtfaelejeihmgcaaDoorW.PrintWords Go.Proofs.YtfaelejeihmgcaaDoorW.PrintLast
def forgotS : ByteArray := ⟨#[102, 111, 114, 103, 111, 116]⟩
def hexS (s : ByteArray) : ByteArray := ⟨(Wd.hexB s).toArray⟩
def forgotL1 (l : List ByteArray) : List ByteArray := [forgotS] ++ l.map hexS
theorem forgot_snoc (l : List ByteArray) (x : ByteArray) : forgotL1 (l ++ [x]) = forgotL1 l ++ [hexS x] := by simp [forgotL1]
theorem join_at (A : Option Addr) (c n : Nat) (l : List ByteArray) (r : ByteArray) (w : World) (hn : l.length = n) (hr : Kd.C Kd.string w A l.length l) (hc : l.length ≤ c) (h : strings_Join.f l ⟨#[32]⟩ = some r) :
    Calls Tryd.prog 62 #[.slice A n c, .string ⟨#[32]⟩] w fun e w' => e = .returned (.string r) ∧ Below w.heap.size w w' := by
  subst hn
  exact strings_Join.calls A c l _ r w hr hc h
set_option maxHeartbeats 4000000 in
set_option maxRecDepth 100000 in
theorem ledger_Line_forgot (f1 : Int) (A2 : Option Addr) (n2 c2 : Nat) (A3 : Option Addr) (n3 c3 : Nat) (A4 : Option Addr) (c4 : Nat) (l : List ByteArray) (r : ByteArray) (w : World) (hC : Kd.C Kd.string w A4 l.length l) (hl : l.length ≤ 1000) (hs : ∀ s ∈ l, s.size ≤ 1048576) (h : strings_Join.f (forgotL1 l) ⟨#[32]⟩ = some r) :
    Calls Tryd.prog 32 #[.agg #[.int .i64 3, .int .u32 f1, .slice A2 n2 c2, .slice A3 n3 c3, .slice A4 l.length c4]] w fun e w' => e = .returned (.string r) ∧ Below w.heap.size w w' := by
  have H := Lib.hid h
  have HS := Lib.hid hs
  clear h hs
  have hb1 := below_alloc (Below.refl _ w) (.cells #[.int .i64 3, .int .u32 f1, .slice A2 n2 c2, .slice A3 n3 c3, .slice A4 l.length c4] 43)
  have hz := heap_alloc_new w (.cells #[.int .i64 3, .int .u32 f1, .slice A2 n2 c2, .slice A3 n3 c3, .slice A4 l.length c4] 43)
  have hlt1 : w.heap.size < (w.alloc (.cells #[.int .i64 3, .int .u32 f1, .slice A2 n2 c2, .slice A3 n3 c3, .slice A4 l.length c4] 43)).heap.size := by simp
  go_enter Tryd.func32, Tryd.ntmps32
  go_wp2_with ((with_reducible refine gate_dst (N := 84) rfl ?_); refine Kd.R_lit Kd.string _ 9 ?hg (N := 84) ?hd (xs := [forgotS]) (inner := [.string forgotS]) (ok := fun _ => True) (okp := fun _ => True) ?hr ?hp (fun _ hk => hk) trivial (Below.refl _ _) (Nat.le_refl _) (by simp) ?_; (case hd => rfl); (case hg => rfl); (case hr => first | (go_simp; done) | (go_simp; rfl)); (case hp => exact (Reps.one (show Kd.M Kd.string _ _ _ forgotS [.string forgotS] from rfl) (Reps.none _ _))))
  intro v0 w2 hR0 hb2 _ x _ _
  rw [show w.heap.size + 1 = (w.alloc (.cells #[.int .i64 3, .int .u32 f1, .slice A2 n2 c2, .slice A3 n3 c3, .slice A4 l.length c4] 43)).heap.size by simp] at hR0 hb2
  generalize w.alloc (.cells #[.int .i64 3, .int .u32 f1, .slice A2 n2 c2, .slice A3 n3 c3, .slice A4 l.length c4] 43) = w1 at hb1 hz hlt1 hR0 hb2 ⊢
  have z4 : w2.cell? ⟨w.heap.size, 4, none⟩ = some (.slice A4 l.length c4) := (hb2.cell (p := ⟨w.heap.size, 4, none⟩) hlt1).trans (Lib.cell_of_heap hz 4)
  go_wp2_with fail
  go_loopw [3, 88] (fun v i wi => ∃ j : Nat, j ≤ l.length ∧ i = .int .i64 j ∧ Kd.R Kd.string 9 wi w1.heap.size (fun _ => True) v (forgotL1 (l.take j)) ∧ Below w1.heap.size w1 wi) (fun _ i _ => l.length - (intOf i).toNat)
  case atStart => exact ⟨0, Nat.zero_le _, rfl, hR0, hb2⟩
  case round =>
    clear hR0 hb2
    obtain ⟨j, hjl, rfl, hR, hbi⟩ := hrel
    have hbm := below_then hb1 hb1.size hbi
    by_cases hlj : j < l.length
    · obtain ⟨ad, e, c0⟩ := Kd.at_string hC j (by omega) (by omega)
      cases e
      have hrd : rdOf ByteArray.empty l (j : Int) = l[j] := by
        unfold rdOf
        rw [List.getD_eq_getElem?_getD, Int.toNat_natCast, List.getElem?_eq_getElem hlj]
        rfl
      rw [hrd] at c0
      have hsn := forgot_snoc (l.take j) l[j]
      rw [← List.take_succ_eq_append_getElem hlj] at hsn
      have hx0 := HS.out _ (List.getElem_mem hlj)
      obtain ⟨x, hx⟩ : ∃ x, x = l[j] := ⟨_, rfl⟩
      rw [← hx] at c0 hsn hx0
      have Hsn := Lib.hid hsn
      have hxf : ledger_hex.f x = some (hexS x) := by
        unfold ledger_hex.f hexS
        rw [if_pos (Nat.le_trans hx0 (by decide))]
      have Hxf := Lib.hid hxf
      clear hsn hx hrd hx0 hxf
      simp only [Int.toNat_natCast] at c0
      replace c0 := (hbm.cell (World.block_lt_of_cell? w _ c0)).trans c0
      have hlen : (forgotL1 (l.take j)).length ≤ 1048576 := by simp only [forgotL1, List.length_append, List.length_map, List.length_singleton]; have := List.length_take_le j l; omega
      go_wp2_with fail
      refine (ledger_hex.calls x _ _ Hxf.out).mono ?_
      rintro e w3 ⟨rfl, hb3⟩
      have hbj := below_then hbi hbi.size hb3
      have hR3 := Kd.R_below hR hb3
      clear hR
      go_wp2_with (at_builtin; refine Kd.R_append Kd.string (w0 := w1) w1.heap.size rfl (.tmp 92) (.tmp 95) 22 9 (.string ⟨#[]⟩) 16 rfl Tryd.underlying22 info9 rfl (by decide) (by omega) u3 (forgotL1 (l.take j)) (hexS x) [.string (hexS x)] (fun _ => True) (fun _ => False) rfl (by first | (go_simp; done) | (go_simp; rfl)) rfl (fun _ hk => hk.elim) (fun _ _ => trivial) hR3 hbj hbj.size ?aL ?_)
      case aL => omega
      intro v1 w4 hR1 hb4 _ _
      have hR2 : Kd.R Kd.string 9 w4 w1.heap.size (fun _ => True) v1 (forgotL1 (l.take (j + 1))) := by rw [Hsn.out]; exact hR1
      clear hR3 hR1
      go_wp2
      go_roundw
      case rel => exact ⟨j + 1, hlj, by simp, hR2, hb4⟩
      case measure => simp [intOf]; omega
    · have hje : j = l.length := by omega
      subst hje
      rw [List.take_length] at hR
      obtain ⟨Aa, ca, ea⟩ := Kd.R_slice hR
      subst ea
      obtain ⟨_, hca, hCa⟩ := Kd.R_reads' hR
      have Hca := Lib.hid hca
      obtain ⟨n, hn⟩ : ∃ n, (forgotL1 l).length = n := ⟨_, rfl⟩
      rw [hn]
      have Hn := Lib.hid hn
      clear hR hca hn
      go_wp2_with fail
      refine (join_at Aa ca n (forgotL1 l) r wr Hn.out hCa Hca.out H.out).mono ?_
      rintro e w5 ⟨rfl, hb5⟩
      have hbf := below_then hbm hbm.size hb5
      go_wp2
      go_ret
      exact ⟨rfl, hbf⟩
theorem alive_replay : ledger_Replay.f [⟨2, 0, [], [⟨⟨#[97]⟩, true, ⟨#[]⟩, 0⟩], []⟩] = some (0, false) := by
  unfold ledger_Replay.f
  rw [if_pos (by decide)]
  simp [replayM, fails, sameA, neA, getM, asked, Atm.nought]
theorem alive_line : strings_Join.f (forgotL1 [⟨#[97]⟩]) ⟨#[32]⟩ = some ⟨#[102, 111, 114, 103, 111, 116, 32, 54, 49]⟩ := by
  have e : Wd.joinB (forgotL1 [⟨#[97]⟩]) ⟨#[32]⟩ = [102, 111, 114, 103, 111, 116, 32, 54, 49] := by decide
  unfold strings_Join.f Wd.strings_Join.f
  rw [e]
  rfl
theorem bytes9 : ((⟨#[102, 111, 114, 103, 111, 116, 32, 54, 49]⟩ : ByteArray).toList == ([102, 111, 114, 103, 111, 116, 32, 54, 49] : List UInt8)) = true := by rw [ByteArray.toList_eq]; decide
set_option maxHeartbeats 8000000 in
set_option maxRecDepth 100000 in
theorem alive_walk (w : World) : Calls Tryd.prog 31 #[] w fun e w' => e = .returned (.bool true) ∧ Below w.heap.size w w' := by
  have hu98 := Tryd.underlying98
  have hu43 := Tryd.underlying43
  have HB := Aside0.mk (Below.refl w.heap.size w)
  obtain ⟨y293, hy293⟩ : ∃ y_ : List (S98), y_ = (([(⟨(⟨#[97]⟩ : ByteArray), true, (⟨#[]⟩ : ByteArray), 0⟩ : S98)] : List (S98))) := ⟨_, rfl⟩
  obtain ⟨y296, hy296⟩ : ∃ y_ : List (S43), y_ = (([(⟨2, 0, ([] : List (S101)), y293, ([] : List ByteArray)⟩ : S43)] : List (S43))) := ⟨_, rfl⟩
  obtain ⟨y301, hy301⟩ : ∃ y_ : List ByteArray, y_ = (([(⟨#[97]⟩ : ByteArray)] : List ByteArray)) := ⟨_, rfl⟩
  obtain ⟨t304, ht304⟩ : ∃ t_ : ByteArray, t_ = ⟨#[102, 111, 114, 103, 111, 116, 32, 54, 49]⟩ := ⟨_, rfl⟩
  have A1 : Aside0 (ledger_Replay.f y296 = some (0, false)) := ⟨by rw [hy296, hy293]; exact alive_replay⟩
  have A2 : Aside0 (strings_Join.f (forgotL1 y301) ⟨#[32]⟩ = some t304) := ⟨by rw [hy301, ht304]; exact alive_line⟩
  have c3b0 : (t304.toList == ([102, 111, 114, 103, 111, 116, 32, 54, 49] : List UInt8)) = true := by rw [ht304]; exact bytes9
  have c3b1 : (t304.toList != ([102, 111, 114, 103, 111, 116, 32, 54, 49] : List UInt8)) = false := bne_eq_false_iff_eq.mpr (beq_iff_eq.1 c3b0)
  have Ny293 := Aside0.mk hy293
  have Ny296 := Aside0.mk hy296
  have Ny301 := Aside0.mk hy301
  clear hy293 hy296 hy301 ht304
  go_enter Tryd.func31, Tryd.ntmps31
  go_wp2_with (first | ((with_reducible refine gate_dst (N := 5) rfl ?_); refine Kd.R_lit k98 _ 98 ?hg (N := 5) ?hd (xs := ([(⟨(⟨#[97]⟩ : ByteArray), true, (⟨#[]⟩ : ByteArray), 0⟩ : S98)] : List (S98))) (inner := [.string (⟨#[97]⟩ : ByteArray), .bool true, .string (⟨#[]⟩ : ByteArray), .int .u32 0]) (ok := fun _ => True) (okp := fun _ => True) ?hr ?hp (fun _ hk => hk) trivial (Below.refl _ _) (Nat.le_refl _) (by simp) ?_; (case hd => rfl); (case hg => rfl); (case hr => first | (go_simp; done) | (go_simp; rfl)); (case hp => exact (Reps.c4 (show Kd.M k98 _ _ _ (⟨(⟨#[97]⟩ : ByteArray), true, (⟨#[]⟩ : ByteArray), 0⟩ : S98) [.string (⟨#[97]⟩ : ByteArray), .bool true, .string (⟨#[]⟩ : ByteArray), .int .u32 0] from (k98_mkM _ _ _ (⟨(⟨#[97]⟩ : ByteArray), true, (⟨#[]⟩ : ByteArray), 0⟩ : S98) )) (Reps.none _ _))); intro v294 w5 ho6 hb hg_ hnew_; clear hg_ hnew_; (first | rw [← Ny293.out] at ho6 | (simp only [Int.reduceToNat] at ho6; rw [← Ny293.out] at ho6)); have n0_ := Aside0.mk (Kd.R_lower ho6 (below_size (by repeat (first | (with_reducible first | exact HB.out | apply below_alloc | apply pw_below_drewN | apply below_drew1) | exact HB.out)))); have n1_ := Aside0.mk (below_step (by repeat (first | (with_reducible first | exact HB.out | apply below_alloc | apply pw_below_drewN | apply below_drew1) | exact HB.out)) hb); clear HB; have HO295 := n0_; have HB := n1_; clear n0_ n1_; clear hb ho6; obtain ⟨Ao7, co7, eo7⟩ := Kd.R_slice HO295.out; subst eo7) | ((with_reducible refine gate_dst (N := 7) rfl ?_); refine Kd.N_lit k43 _ 43 ?hg (N' := 7) ?hd (xs := ([(⟨2, 0, ([] : List (S101)), y293, ([] : List ByteArray)⟩ : S43)] : List (S43))) (inner := [.int .i64 2, .int .u32 0, .slice none 0 0, .slice Ao7 y293.length co7, .slice none 0 0]) (ok := (fun _ => True)) (okp := (fun _ => True)) ?hr ?hp (fun _ hk => hk) ((show ∀ k_, w5.heap.size ≤ k_ → (fun _ => True) k_ from fun k_ hk => trivial) _ (Nat.le_refl _)) (Below.refl _ _) (Nat.le_refl _) (by simp) ?_; (case hd => rfl); (case hg => rfl); (case hr => first | (go_simp; done) | (go_simp; rfl)); (case hp => exact (Reps.c5 (show Kd.FK k43 _ _ (⟨2, 0, ([] : List (S101)), y293, ([] : List ByteArray)⟩ : S43) [.int .i64 2, .int .u32 0, .slice none 0 0, .slice Ao7 y293.length co7, .slice none 0 0] from (k43_mkF _ _ (⟨2, 0, ([] : List (S101)), y293, ([] : List ByteArray)⟩ : S43) (Nat.le_refl _) (Kd.F_nil _ _ _) (Kd.R_reads' (Kd.R_mono (ok' := (fun _ => True)) (HO295.out) (fun k_ hk => trivial))).2.1 (Kd.R_F (Kd.R_mono (ok' := (fun _ => True)) (HO295.out) (fun k_ hk => trivial))) (Nat.le_refl _) (Kd.F_nil _ _ _))) (Reps.none _ _))); intro v297 w8 ho9 hb hg_ hnew_; clear hg_ hnew_; (first | rw [← Ny296.out] at ho9 | (simp only [Int.reduceToNat] at ho9; rw [← Ny296.out] at ho9)); have n0_ := Aside0.mk (Kd.N_lower ho9 (below_size (by repeat (first | (with_reducible first | exact HB.out | apply below_alloc | apply pw_below_drewN | apply below_drew1) | exact HB.out)))); have n1_ := Aside0.mk (below_step (by repeat (first | (with_reducible first | exact HB.out | apply below_alloc | apply pw_below_drewN | apply below_drew1) | exact HB.out)) hb); clear HB; clear HO295; have HO298 := n0_; have HB := n1_; clear n0_ n1_; clear hb ho9; obtain ⟨Ao10, co10, eo10⟩ := Kd.N_slice HO298.out; subst eo10) | ((with_reducible refine gate_callee (f := 35) rfl ?_); refine goesL_ (some 8) rfl rfl Tryd.func35 (by kernel_rfl) rfl #[.slice Ao10 y296.length co10] rfl (by (try simp only [List.map_toArray, List.map_cons, List.map_nil]); first | done | rfl | (simp only [List.length_drop, List.length_take]; rfl)) ?_; (with_reducible refine (ledger_Replay.calls _ _ y296 0 false _ ?side1 ?side2 A1.out).mono ?_); (case side1 => repeat (first | exact (Kd.N_reads' HO298.out).2.2 | (with_reducible refine Kd.C_alloc ?_ _) | (with_reducible refine Kd.C_drewN ?_ _) | (with_reducible refine Kd.C_drew ?_))); (case side2 => exact (Kd.N_reads' HO298.out).2.1); rintro e w11 ⟨rfl, hb⟩; refine ⟨_, rfl, ?_⟩; have n0_ := Aside0.mk (Kd.N_below (by (with_reducible repeat (first | apply Kd.N_alloc | apply Kd.N_drewN | apply Kd.N_drew)); exact HO298.out) hb); have n1_ := Aside0.mk (below_step (by repeat (first | (with_reducible first | exact HB.out | apply below_alloc | apply pw_below_drewN | apply below_drew1) | exact HB.out)) hb); clear HO298; clear HB; have HO298 := n0_; have HB := n1_; clear n0_ n1_; (try clear hb); (try clear hb2); (try clear hk); (try clear hi)) | ((with_reducible refine gate_dst (N := 11) rfl ?_); refine Kd.R_lit Kd.string _ 9 ?hg (N := 11) ?hd (xs := ([(⟨#[97]⟩ : ByteArray)] : List ByteArray)) (inner := [.string (⟨#[97]⟩ : ByteArray)]) (ok := fun _ => True) (okp := fun _ => True) ?hr ?hp (fun _ hk => hk) trivial (Below.refl _ _) (Nat.le_refl _) (by simp) ?_; (case hd => rfl); (case hg => rfl); (case hr => first | (go_simp; done) | (go_simp; rfl)); (case hp => exact (Reps.one (show Kd.M Kd.string _ _ _ (⟨#[97]⟩ : ByteArray) [.string (⟨#[97]⟩ : ByteArray)] from rfl) (Reps.none _ _))); intro v302 w12 ho13 hb hg_ hnew_; clear hg_ hnew_; (first | rw [← Ny301.out] at ho13 | (simp only [Int.reduceToNat] at ho13; rw [← Ny301.out] at ho13)); have n0_ := Aside0.mk (Kd.N_elder' (by (with_reducible repeat (first | apply Kd.N_alloc | apply Kd.N_drewN | apply Kd.N_drew)); exact HO298.out) (Kd.R_base ho13) hb); have n1_ := Aside0.mk (Kd.R_lower ho13 (below_size (by repeat (first | (with_reducible first | exact HB.out | apply below_alloc | apply pw_below_drewN | apply below_drew1) | exact HB.out)))); have n2_ := Aside0.mk (below_step (by repeat (first | (with_reducible first | exact HB.out | apply below_alloc | apply pw_below_drewN | apply below_drew1) | exact HB.out)) hb); clear HO298; clear HB; have HO298 := n0_; have HO303 := n1_; have HB := n2_; clear n0_ n1_ n2_; clear hb ho13; obtain ⟨Ao14, co14, eo14⟩ := Kd.R_slice HO303.out; subst eo14) | ((with_reducible refine gate_callee (f := 32) rfl ?_); refine goesL_ (some 13) rfl rfl Tryd.func32 (by kernel_rfl) rfl #[.agg #[.int .i64 3, .int .u32 0, .slice none 0 0, .slice none 0 0, .slice Ao14 y301.length co14]] rfl (by (try simp only [List.map_toArray, List.map_cons, List.map_nil]); first | done | rfl | (simp only [List.length_drop, List.length_take]; rfl)) ?_; (refine (ledger_Line_forgot 0 _ 0 0 _ 0 0 _ _ y301 t304 _ ?side5 (by rw [Ny301.out]; decide) (by rw [Ny301.out]; decide) A2.out).mono ?_); (case side5 => repeat (first | exact (Kd.R_reads' HO303.out).2.2 | (with_reducible refine Kd.C_alloc ?_ _) | (with_reducible refine Kd.C_drewN ?_ _) | (with_reducible refine Kd.C_drew ?_))); rintro e w15 ⟨rfl, hb⟩; refine ⟨_, rfl, ?_⟩; have n0_ := Aside0.mk (Kd.N_below (by (with_reducible repeat (first | apply Kd.N_alloc | apply Kd.N_drewN | apply Kd.N_drew)); exact HO298.out) hb); have n1_ := Aside0.mk (Kd.R_below (by (with_reducible repeat (first | apply Kd.R_alloc | apply Kd.R_drewN | apply Kd.R_drew)); exact HO303.out) hb); have n2_ := Aside0.mk (below_step (by repeat (first | (with_reducible first | exact HB.out | apply below_alloc | apply pw_below_drewN | apply below_drew1) | exact HB.out)) hb); clear HO298; clear HO303; clear HB; have HO298 := n0_; have HO303 := n1_; have HB := n2_; clear n0_ n1_ n2_; (try clear hb); (try clear hb2); (try clear hk); (try clear hi)))
  go_ret
  exact ⟨by first | rfl | (simp [errW_none, errW_some] <;> rfl) | (simp [*, errW_none, errW_some] <;> rfl), by repeat (first | (with_reducible first | exact HB.out | apply below_alloc | apply pw_below_drewN | apply below_drew1) | exact HB.out)⟩
end Go.Proofs.YtfaelejeihmgcaaDoor.Lgx
end
