/-
  Texts of mine, and texts that print.sh and pp.py wrote, merged and cut to what is used: Lg12, Lg5
-/
import Derived.Test.YtfaelejeihmgcaaDoorProg
import Derived.Below
import Derived.Lib.ItoaMem
import Derived.Lib.LaidTab
import Derived.Deep.Draws
import Derived.Deep.AppendLies
import Derived.Maps.AppendAt
import Derived.OwnWalk
import Derived.Laws.BytesArg
import Derived.Laws.MakeOwn
import Derived.Laws.OwnMore
import Derived.Deep.OwnRows
import Derived.Tactics
import Derived.Lib.ConvBytes
import Derived.Laws.Slices
import Derived.WalkKit
import Derived.KernelRfl
import Derived.RowKit3
import Derived.Deep.LoopGhost
import Derived.Deep.QuietTactic
import Derived.BigQuiet
import Derived.WideLaws
import Derived.Deep.DeepCutAuto
import Derived.Deep.CutBlock
import Derived.Deep.RegionHeld3
import Derived.Laws.Rows
import Derived.Lib.AppendStr
import Derived.ArgAppend
import Derived.Laws.IdiomCopy
import Derived.OrdersHeld
import Derived.Laws.BitsLemmas
import Derived.RowKit
import Derived.Laws.StructEq
import Derived.Shelf.Strconv.Itoa0
import Derived.Shelf.Strconv.Itoa1
import Derived.Shelf.LaysM
import Derived.Shelf.Strconv.Itoa2
import Derived.Lib.Strings
import Derived.Lib.Slices
import Derived.Lib.Walk
import Derived.Lib.Builder
import Derived.Lib.UnsafeStr
import Derived.Shelf.Strings.Builder1
import Derived.Shelf.Strings.OnBuilder
import Derived.Shelf.Unicode.DecodeSlow
import Derived.Shelf.Unicode.DecodeAny
import Derived.Laws.Externs
import Derived.Lib.DecodeNEq
import Derived.StillTailTactics
import Derived.Outline
import Derived.Lib.Hide
import Derived.IntWalk
import Derived.WalkSpells
import Derived.Tactics2
import Derived.Laws.Pointers
import Derived.Lib.AppendIntMem
import Derived.BigCall
import Derived.BigGuard
import Derived.FnData
import Derived.Carry
import Derived.Deep.MidRow
import Derived.Maps.OwnSet
import Derived.StillTactics
import Derived.Test.YtfaelejeihmgcaaDoorRows
import Derived.ChangeArms
import Derived.DataReads
import Derived.DataElems
import Derived.Test.YtfaelejeihmgcaaDoorCards
import Derived.Test.YtfaelejeihmgcaaDoorTie
import Derived.Lib.LaidU8
import Derived.LaidMore
import Derived.Lay
import Derived.ProofKit
import Derived.OpenShut
import Derived.SevenTiedAt
import Derived.Stop.Joined
import Derived.Deep.DeepHandedRow
import Derived.SliceStrings
import Derived.Test.YtfaelejeihmgcaaDoorMa0

section
namespace Go.Proofs.YtfaelejeihmgcaaDoor.Lgx
open Go.RowKit Go.Proofs.YtfaelejeihmgcaaDoorW.PrintWords Go.Proofs.YtfaelejeihmgcaaDoorW.PrintLast Go.Proofs.YtfaelejeihmgcaaDoorW.PrintMore
attribute [local go_sem] max2_int min2_int max_two min_two max_three min_three max_four min_four   -- for this text's walks alone
set_option linter.unusedVariables false
set_option linter.unusedSimpArgs false
def cachepotref3_later.l0 : Nat → List (S43) → Int → Int → ByteArray → Bool → ByteArray → Int → Option (Bool)
  | 0, _, _, _, _, _, _, _ => none
  | k + 1, x0, x3, x9, x285000, x285001, x285002, x285003 => if x9 < x3 then (if 0 ≤ x9 then (if x9 < (x0.length : Int) then (if ((rd_T43 x0 x9).f0) = 1 then (if x285001 = true then (if ((rd_T43 x0 x9).f1) = x285003 then (some true) else (cachepotref3_later.l0 k x0 x3 (wrap64 (x9 + 1)) x285000 x285001 x285002 x285003)) else ((cachepotref1_BatchFind.f k ((rd_T43 x0 x9).f2) x285000).bind fun bt288 => (if bt288.2.2.2 = true then (if bt288.2.1 = true then (some true) else (cachepotref3_later.l0 k x0 x3 (wrap64 (x9 + 1)) x285000 x285001 x285002 x285003)) else (cachepotref3_later.l0 k x0 x3 (wrap64 (x9 + 1)) x285000 x285001 x285002 x285003)))) else (cachepotref3_later.l0 k x0 x3 (wrap64 (x9 + 1)) x285000 x285001 x285002 x285003)) else (none)) else (none)) else (some false)
def cachepotref3_later.f (k : Nat) (l0 : List (S43)) (a1_0 : ByteArray) (a1_1 : Bool) (a1_2 : ByteArray) (a1_3 : Int) (a2 : Int) (a3 : Int) : Option (Bool) := cachepotref3_later.l0 k l0 a3 a2 a1_0 a1_1 a1_2 a1_3
def cachepotref3_later.T6 : Bool × List (List Nat × List Nat) := (true, [([], []), ([], []), ([0, 1], [0, 1]), ([2], [2]), ([3], [3]), ([], []), ([5], [5]), ([4, 6], [4, 6])])
def cachepotref3_later.B6 : List Nat := [0, 0, 3, 7, 15, 0, 32, 127]
theorem cachepotref3_later.tab6 : rtab .any (opsOf Tryd.f108 6) = cachepotref3_later.T6 := by kernel_rfl
theorem cachepotref3_later.bits6 : waitsOk cachepotref3_later.T6.2 cachepotref3_later.B6 = true := by kernel_rfl
def cachepotref3_later.T8 : Bool × List (List Nat × List Nat) := (true, [([], []), ([], []), ([0, 1], [0, 1]), ([2], [2]), ([3], [3]), ([], []), ([5], [5]), ([4, 6], [4, 6]), ([7], [7]), ([8], [8]), ([8], [8]), ([], []), ([11, 9, 7, 0, 1, 2, 3, 4, 5, 6, 7, 8, 9, 11], [9, 11]), ([10, 12, 0, 1, 2, 3, 4, 5, 6, 7, 8, 9, 10, 11, 12], [10])])
def cachepotref3_later.B8 : List Nat := [0, 0, 3, 7, 15, 0, 32, 127, 255, 511, 511, 0, 3071, 8191]
theorem cachepotref3_later.tab8 : rtab .any (opsOf Tryd.f108 8) = cachepotref3_later.T8 := by kernel_rfl
theorem cachepotref3_later.bits8 : waitsOk cachepotref3_later.T8.2 cachepotref3_later.B8 = true := by kernel_rfl
set_option maxHeartbeats 8000000 in
set_option maxRecDepth 100000 in
theorem cachepotref3_later.calls (k : Nat) (A0 : Option Addr) (c0 : Nat) (l0 : List (S43)) (a1_0 : ByteArray) (a1_1 : Bool) (a1_2 : ByteArray) (a1_3 : Int) (a2 : Int) (a3 : Int) (r : Bool) (w : World) (hr0 : Kd.C k43 w A0 l0.length l0) (hc0 : l0.length ≤ c0) (h : cachepotref3_later.f k l0 a1_0 a1_1 a1_2 a1_3 a2 a3 = some r) :
    Calls Tryd.prog 108 #[.slice A0 l0.length c0, .agg #[.string a1_0, .bool a1_1, .string a1_2, .int .u32 a1_3], .int .i64 a2, .int .i64 a3] w fun e w' => e = .returned (.bool r) ∧ Below w.heap.size w w' := by
  have hu98 := Tryd.underlying98
  have hu101 := Tryd.underlying101
  have HR0 := Aside0.mk hr0
  have HC0 := Aside0.mk hc0
  clear hr0 hc0
  have HB := Aside0.mk (Below.refl w.heap.size w)
  have H : (cachepotref3_later.l0 k l0 a3 a2 a1_0 a1_1 a1_2 a1_3) = some r := h
  clear h
  have H' := Aside0.mk H
  clear H
  go_enter Tryd.func108, Tryd.ntmps108
  go_wp2_with (first | ((with_reducible refine gate_dst (N := 5) rfl ?_); refine box_event ?hg (N := 5) ?hd (cs := #[.string a1_0, .bool a1_1, .string a1_2, .int .u32 a1_3]) (t := 98) ?hr ?_; (case hd => rfl); (case hg => rfl); (case hr => first | (go_simp; done) | (go_simp; rfl)); intro gb284 hg w5 hbox hb; have n0_ := Aside0.mk (below_step (by repeat (first | (with_reducible first | exact HB.out | apply below_alloc | apply pw_below_drewN | apply below_drew1) | exact HB.out)) hb); have n1_ := Aside0.mk (hbox); have n2_ := Aside0.mk ((by rw [hg]; exact (below_size (by repeat (first | (with_reducible first | exact HB.out | apply below_alloc | apply pw_below_drewN | apply below_drew1) | exact HB.out))) : w.heap.size ≤ gb284)); have n3_ := Aside0.mk ((by rw [hg]; exact (below_size (by repeat (first | (with_reducible first | exact HB.out | apply below_alloc | apply pw_below_drewN | apply below_drew1) | exact HB.out))) : w.heap.size ≤ gb284)); clear HB; have HB := n0_; have BK284 := n1_; have GW284 := n2_; have GE284 := n3_; clear n0_ n1_ n2_ n3_; clear hb hbox hg))
  go_loopg [9] k (fun kq v9 w' => ∃ (x9_1 : Int), v9 = .int .i64 x9_1 ∧ Aside0 (cachepotref3_later.l0 kq l0 a3 x9_1 a1_0 a1_1 a1_2 a1_3 = some r) ∧ Aside0 (kq ≤ k) ∧ Aside0 (w'.heap[gb284]? = some (.cells #[.string a1_0, .bool a1_1, .string a1_2, .int .u32 a1_3] 98 (0, 0))) ∧ Aside0 (Below w.heap.size w w'))
  case atStart => exact ⟨(a2), (by first | rfl | (simp; done) | (simp [*]; done)), H', ⟨Nat.le_refl _⟩, ⟨by (with_reducible repeat (first | refine blk_drewN ?_ _ | refine blk_drew ?_ | refine blk_alloc ?_ _)); exact BK284.out⟩, ⟨by repeat (first | (with_reducible first | exact HB.out | apply below_alloc | apply pw_below_drewN | apply below_drew1 | refine below_set ?_ GE284.out) | exact HB.out)⟩⟩
  case round =>
    clear H'
    try clear c1
    try clear p2
    obtain ⟨x9_1, rfl, HA, HK1, BK284, HB⟩ := hrel
    cases gk with
    | zero => exact absurd HA.out (by simp [cachepotref3_later.l0])
    | succ k1 =>
      have H := HA.out
      clear HA
      simp only [cachepotref3_later.l0] at H
      by_cases c6 : x9_1 < a3
      · rw [if_pos c6] at H
        have c6b0 : decide (x9_1 < a3) = true := decide_eq_true c6
        clear c6
        by_cases c7 : 0 ≤ x9_1
        · rw [if_pos c7] at H
          have c7b0 : decide (0 ≤ x9_1) = true := decide_eq_true c7
          clear c7
          by_cases c8 : x9_1 < (l0.length : Int)
          · rw [if_pos c8] at H
            have c8b0 : decide (x9_1 < (l0.length : Int)) = true := decide_eq_true c8
            clear c8
            by_cases c9 : ((rd_T43 l0 x9_1).f0) = 1
            · rw [if_pos c9] at H
              have c9b0 : (((rd_T43 l0 x9_1).f0) == 1) = true := beq_iff_eq.mpr c9
              have c9b1 : (((rd_T43 l0 x9_1).f0) != 1) = false := bne_eq_false_iff_eq.mpr c9
              clear c9
              by_cases c10 : a1_1 = true
              · subst c10
                have H1 : (if ((rd_T43 l0 x9_1).f1) = a1_3 then (some true) else (cachepotref3_later.l0 k1 l0 a3 (wrap64 (x9_1 + 1)) a1_0 true a1_2 a1_3)) = some r := by rw [if_pos rfl] at H; exact H
                clear H
                have H := H1
                clear H1
                by_cases c11 : ((rd_T43 l0 x9_1).f1) = a1_3
                · rw [if_pos c11] at H
                  have c11b0 : (((rd_T43 l0 x9_1).f1) == a1_3) = true := beq_iff_eq.mpr c11
                  have c11b1 : (((rd_T43 l0 x9_1).f1) != a1_3) = false := bne_eq_false_iff_eq.mpr c11
                  clear c11
                  obtain rfl := Option.some.inj H
                  have p285 : 0 ≤ (x9_1 : Int) := of_decide_eq_true (by first | (with_reducible assumption) | assumption)
                  have q285 : x9_1 < (l0.length : Int) := of_decide_eq_true (by first | (with_reducible assumption) | assumption)
                  obtain ⟨ad285, A285_2, c285_2, A285_3, c285_3, A285_4, c285_4, e285, hx285_0, hx285_1, hx285_2, hx285_3, hx285_4, hl285_2, hi285_2, hl285_3, hi285_3, hl285_4, hi285_4⟩ := at_T43 HR0.out x9_1 p285 q285
                  cases e285
                  replace hx285_0 := (HB.out.cell (World.block_lt_of_cell? w _ hx285_0)).trans hx285_0
                  replace hx285_1 := (HB.out.cell (World.block_lt_of_cell? w _ hx285_1)).trans hx285_1
                  replace hx285_2 := (HB.out.cell (World.block_lt_of_cell? w _ hx285_2)).trans hx285_2
                  replace hx285_3 := (HB.out.cell (World.block_lt_of_cell? w _ hx285_3)).trans hx285_3
                  replace hx285_4 := (HB.out.cell (World.block_lt_of_cell? w _ hx285_4)).trans hx285_4
                  have HR285_2 := Aside0.mk hi285_2
                  have HC285_2 := Aside0.mk hl285_2
                  clear hi285_2 hl285_2
                  have HR285_3 := Aside0.mk hi285_3
                  have HC285_3 := Aside0.mk hl285_3
                  clear hi285_3 hl285_3
                  have HR285_4 := Aside0.mk hi285_4
                  have HC285_4 := Aside0.mk hl285_4
                  clear hi285_4 hl285_4
                  replace p285 := eq_true p285
                  replace q285 := eq_true q285
                  have hcz12_0 : wr.cell? ⟨gb284, 0, none⟩ = some (.string a1_0) := (blk_cell BK284.out 0).trans rfl
                  have hcz12_1 : wr.cell? ⟨gb284, 1, none⟩ = some (.bool true) := (blk_cell BK284.out 1).trans rfl
                  have hcz12_2 : wr.cell? ⟨gb284, 2, none⟩ = some (.string a1_2) := (blk_cell BK284.out 2).trans rfl
                  have hcz12_3 : wr.cell? ⟨gb284, 3, none⟩ = some (.int .u32 a1_3) := (blk_cell BK284.out 3).trans rfl
                  have hfz12_0 := blk_frozen BK284.out 0
                  have hfz12_1 := blk_frozen BK284.out 1
                  have hfz12_2 := blk_frozen BK284.out 2
                  have hfz12_3 := blk_frozen BK284.out 3
                  try go_wp2
                  have n0_ := Aside0.mk (blk_drew BK284.out)
                  have n1_ := Aside0.mk (below_drew1 HB.out)
                  clear BK284
                  clear HB
                  have BK284 := n0_
                  have HB := n1_
                  clear n0_ n1_
                  have p286 : 0 ≤ (x9_1 : Int) := of_decide_eq_true (by first | (with_reducible assumption) | assumption)
                  have q286 : x9_1 < (l0.length : Int) := of_decide_eq_true (by first | (with_reducible assumption) | assumption)
                  obtain ⟨ad286, A286_2, c286_2, A286_3, c286_3, A286_4, c286_4, e286, hx286_0, hx286_1, hx286_2, hx286_3, hx286_4, hl286_2, hi286_2, hl286_3, hi286_3, hl286_4, hi286_4⟩ := at_T43 HR0.out x9_1 p286 q286
                  have hw286_4 := hx286_4
                  have hw286_3 := hx286_3
                  have hw286_2 := hx286_2
                  have hw286_1 := hx286_1
                  have hw286_0 := hx286_0
                  obtain rfl : ad285 = ad286 := (by injection e286)
                  replace hx286_0 := (HB.out.cell (World.block_lt_of_cell? w _ hx286_0)).trans hx286_0
                  replace hx286_1 := (HB.out.cell (World.block_lt_of_cell? w _ hx286_1)).trans hx286_1
                  replace hx286_2 := (HB.out.cell (World.block_lt_of_cell? w _ hx286_2)).trans hx286_2
                  replace hx286_3 := (HB.out.cell (World.block_lt_of_cell? w _ hx286_3)).trans hx286_3
                  replace hx286_4 := (HB.out.cell (World.block_lt_of_cell? w _ hx286_4)).trans hx286_4
                  have HR286_2 := Aside0.mk hi286_2
                  have HC286_2 := Aside0.mk hl286_2
                  clear hi286_2 hl286_2
                  have HR286_3 := Aside0.mk hi286_3
                  have HC286_3 := Aside0.mk hl286_3
                  clear hi286_3 hl286_3
                  have HR286_4 := Aside0.mk hi286_4
                  have HC286_4 := Aside0.mk hl286_4
                  clear hi286_4 hl286_4
                  replace p286 := eq_true p286
                  replace q286 := eq_true q286
                  refine start_ (n := 8) (S := fun w' => w'.cell? ⟨gb284, 0, none⟩ = some (.string a1_0) ∧ w'.cell? ⟨gb284, 1, none⟩ = some (.bool true) ∧ w'.cell? ⟨gb284, 2, none⟩ = some (.string a1_2) ∧ w'.cell? ⟨gb284, 3, none⟩ = some (.int .u32 a1_3) ∧ w'.cell? (ad285.add ((x9_1).toNat * 5)) = some (.int .i64 ((rd_T43 l0 x9_1).f0)) ∧ w'.cell? ⟨(ad285.add ((x9_1).toNat * 5)).block, (ad285.add ((x9_1).toNat * 5)).off + 1, none⟩ = some (.int .u32 ((rd_T43 l0 x9_1).f1)) ∧ w'.cell? ⟨(ad285.add ((x9_1).toNat * 5)).block, (ad285.add ((x9_1).toNat * 5)).off + 2, none⟩ = some (.slice A286_2 ((rd_T43 l0 x9_1).f2).length c286_2) ∧ w'.cell? ⟨(ad285.add ((x9_1).toNat * 5)).block, (ad285.add ((x9_1).toNat * 5)).off + 3, none⟩ = some (.slice A286_3 ((rd_T43 l0 x9_1).f3).length c286_3) ∧ w'.cell? ⟨(ad285.add ((x9_1).toNat * 5)).block, (ad285.add ((x9_1).toNat * 5)).off + 4, none⟩ = some (.slice A286_4 ((rd_T43 l0 x9_1).f4).length c286_4)) (ds := []) #[false, false, false, false, false, false, false, false] (by kernel_rfl) rfl rfl ⟨(blk_cell BK284.out 0).trans rfl, (blk_cell BK284.out 1).trans rfl, (blk_cell BK284.out 2).trans rfl, (blk_cell BK284.out 3).trans rfl, ((HB.out.cell (World.block_lt_of_cell? w _ hw286_0)).trans hw286_0), ((HB.out.cell (World.block_lt_of_cell? w _ hw286_1)).trans hw286_1), ((HB.out.cell (World.block_lt_of_cell? w _ hw286_2)).trans hw286_2), ((HB.out.cell (World.block_lt_of_cell? w _ hw286_3)).trans hw286_3), ((HB.out.cell (World.block_lt_of_cell? w _ hw286_4)).trans hw286_4)⟩ (fun hHeld => ?_); refine with_tabW cachepotref3_later.tab6 cachepotref3_later.bits6 (fun HT_ HW_ => ?_)
                  generalize wr.drew = w13 at BK284 HB HR286_2 HR286_3 HR286_4 hx286_0 hx286_1 hx286_2 hx286_3 hx286_4 hHeld ⊢
                  refine pure_ (i := 0) (N := some 26) (v := ?_) (a' := ?_) #[true, false, false, false, false, false, false, false] rfl rfl (any_of HT_.out (by kernel_rfl)) (fun _ _ _ h => h) (Or.inl ⟨by rfl, ?_⟩) ?_ ?_
                  rotate_left
                  · intro w'
                    go_simp
                    with_reducible rfl
                  rotate_left
                  · simp only [Act.put, List.setIfInBounds_toArray, List.set_cons_zero, List.set_cons_succ, i64_w, i32_w]
                    rfl
                  refine pure_ (i := 1) (N := some 27) (v := ?_) (a' := ?_) #[true, true, false, false, false, false, false, false] rfl rfl (any_of HT_.out (by kernel_rfl)) (fun _ _ _ h => h) (Or.inl ⟨by rfl, ?_⟩) ?_ ?_
                  rotate_left
                  · intro w'
                    go_simp
                    with_reducible rfl
                  rotate_left
                  · simp only [Act.put, List.setIfInBounds_toArray, List.set_cons_zero, List.set_cons_succ, i64_w, i32_w]
                    rfl
                  refine pure_ (i := 2) (N := some 28) (v := ?_) (a' := ?_) #[true, true, true, false, false, false, false, false] rfl rfl (any_of HT_.out (by kernel_rfl)) (fun _ _ _ h => h) (Or.inl ⟨by rfl, ?_⟩) ?_ ?_
                  rotate_left
                  · intro w'
                    go_simp
                    with_reducible rfl
                  rotate_left
                  · simp only [Act.put, List.setIfInBounds_toArray, List.set_cons_zero, List.set_cons_succ, i64_w, i32_w]
                    rfl
                  refine pure_ (i := 3) (N := some 29) (v := ?_) (a' := ?_) #[true, true, true, true, false, false, false, false] rfl rfl (any_of HT_.out (by kernel_rfl)) (fun _ _ _ h => h) (Or.inl ⟨by rfl, ?_⟩) ?_ ?_
                  rotate_left
                  · intro w'
                    go_simp
                    with_reducible rfl
                  rotate_left
                  · simp only [Act.put, List.setIfInBounds_toArray, List.set_cons_zero, List.set_cons_succ, i64_w, i32_w]
                    rfl
                  refine pure_ (i := 5) (N := some 31) (v := ?_) (a' := ?_) #[true, true, true, true, false, true, false, false] rfl rfl (any_of HT_.out (by kernel_rfl)) (fun _ _ _ h => h) (Or.inl ⟨by rfl, ?_⟩) ?_ ?_
                  rotate_left
                  · intro w'
                    go_simp
                    with_reducible rfl
                  rotate_left
                  · simp only [Act.put, List.setIfInBounds_toArray, List.set_cons_zero, List.set_cons_succ, i64_w, i32_w]
                    rfl
                  refine take_ (i := 4) (N := some 30) (v := ?_) (a' := ?_) #[true, true, true, true, true, true, false, false] rfl rfl (take_ofW HT_.out HW_.out (by kernel_rfl)) (fun _ _ _ h => h) (Or.inl ⟨by rfl, ?_⟩) hHeld ?_ ?_
                  rotate_left
                  · rintro w' ⟨s0, s1, s2, s3, s4, s5, s6, s7, s8⟩
                    go_simp
                    with_reducible rfl
                  rotate_left
                  · simp only [Act.put, List.setIfInBounds_toArray, List.set_cons_zero, List.set_cons_succ, i64_w, i32_w]
                    rfl
                  refine take_ (i := 6) (N := some 32) (v := ?_) (a' := ?_) #[true, true, true, true, true, true, true, false] rfl rfl (take_ofW HT_.out HW_.out (by kernel_rfl)) (fun _ _ _ h => h) (Or.inl ⟨by rfl, ?_⟩) hHeld ?_ ?_
                  rotate_left
                  · rintro w' ⟨s0, s1, s2, s3, s4, s5, s6, s7, s8⟩
                    go_simp
                    with_reducible rfl
                  rotate_left
                  · simp only [Act.put, List.setIfInBounds_toArray, List.set_cons_zero, List.set_cons_succ, i64_w, i32_w]
                    rfl
                  refine pure_ (i := 7) (N := some 33) (v := ?_) (a' := ?_) #[true, true, true, true, true, true, true, true] rfl rfl (any_of HT_.out (by kernel_rfl)) (fun _ _ _ h => h) (Or.inl ⟨by rfl, ?_⟩) ?_ ?_
                  rotate_left
                  · intro w'
                    go_simp
                    with_reducible rfl
                  rotate_left
                  · simp only [Act.put, List.setIfInBounds_toArray, List.set_cons_zero, List.set_cons_succ, i64_w, i32_w]
                    rfl
                  refine done_ (done_of HT_.out (by kernel_rfl)) ?_
                  try go_wp2
                  go_ret
                  exact ⟨by first | rfl | (simp [errW_none, errW_some] <;> rfl) | (simp [*, errW_none, errW_some] <;> rfl), by repeat (first | (with_reducible first | exact HB.out | apply below_alloc | apply pw_below_drewN | apply below_drew1 | refine below_set ?_ GE284.out) | exact HB.out)⟩
                · rw [if_neg c11] at H
                  have c11b0 : (((rd_T43 l0 x9_1).f1) == a1_3) = false := beq_eq_false_iff_ne.mpr c11
                  have c11b1 : (((rd_T43 l0 x9_1).f1) != a1_3) = true := bne_iff_ne.mpr c11
                  have H' := Aside0.mk H
                  clear H
                  have p285 : 0 ≤ (x9_1 : Int) := of_decide_eq_true (by first | (with_reducible assumption) | assumption)
                  have q285 : x9_1 < (l0.length : Int) := of_decide_eq_true (by first | (with_reducible assumption) | assumption)
                  obtain ⟨ad285, A285_2, c285_2, A285_3, c285_3, A285_4, c285_4, e285, hx285_0, hx285_1, hx285_2, hx285_3, hx285_4, hl285_2, hi285_2, hl285_3, hi285_3, hl285_4, hi285_4⟩ := at_T43 HR0.out x9_1 p285 q285
                  cases e285
                  replace hx285_0 := (HB.out.cell (World.block_lt_of_cell? w _ hx285_0)).trans hx285_0
                  replace hx285_1 := (HB.out.cell (World.block_lt_of_cell? w _ hx285_1)).trans hx285_1
                  replace hx285_2 := (HB.out.cell (World.block_lt_of_cell? w _ hx285_2)).trans hx285_2
                  replace hx285_3 := (HB.out.cell (World.block_lt_of_cell? w _ hx285_3)).trans hx285_3
                  replace hx285_4 := (HB.out.cell (World.block_lt_of_cell? w _ hx285_4)).trans hx285_4
                  have HR285_2 := Aside0.mk hi285_2
                  have HC285_2 := Aside0.mk hl285_2
                  clear hi285_2 hl285_2
                  have HR285_3 := Aside0.mk hi285_3
                  have HC285_3 := Aside0.mk hl285_3
                  clear hi285_3 hl285_3
                  have HR285_4 := Aside0.mk hi285_4
                  have HC285_4 := Aside0.mk hl285_4
                  clear hi285_4 hl285_4
                  replace p285 := eq_true p285
                  replace q285 := eq_true q285
                  have hcz14_0 : wr.cell? ⟨gb284, 0, none⟩ = some (.string a1_0) := (blk_cell BK284.out 0).trans rfl
                  have hcz14_1 : wr.cell? ⟨gb284, 1, none⟩ = some (.bool true) := (blk_cell BK284.out 1).trans rfl
                  have hcz14_2 : wr.cell? ⟨gb284, 2, none⟩ = some (.string a1_2) := (blk_cell BK284.out 2).trans rfl
                  have hcz14_3 : wr.cell? ⟨gb284, 3, none⟩ = some (.int .u32 a1_3) := (blk_cell BK284.out 3).trans rfl
                  have hfz14_0 := blk_frozen BK284.out 0
                  have hfz14_1 := blk_frozen BK284.out 1
                  have hfz14_2 := blk_frozen BK284.out 2
                  have hfz14_3 := blk_frozen BK284.out 3
                  try go_wp2
                  have n0_ := Aside0.mk (blk_drew BK284.out)
                  have n1_ := Aside0.mk (below_drew1 HB.out)
                  clear BK284
                  clear HB
                  have BK284 := n0_
                  have HB := n1_
                  clear n0_ n1_
                  have p286 : 0 ≤ (x9_1 : Int) := of_decide_eq_true (by first | (with_reducible assumption) | assumption)
                  have q286 : x9_1 < (l0.length : Int) := of_decide_eq_true (by first | (with_reducible assumption) | assumption)
                  obtain ⟨ad286, A286_2, c286_2, A286_3, c286_3, A286_4, c286_4, e286, hx286_0, hx286_1, hx286_2, hx286_3, hx286_4, hl286_2, hi286_2, hl286_3, hi286_3, hl286_4, hi286_4⟩ := at_T43 HR0.out x9_1 p286 q286
                  have hw286_4 := hx286_4
                  have hw286_3 := hx286_3
                  have hw286_2 := hx286_2
                  have hw286_1 := hx286_1
                  have hw286_0 := hx286_0
                  obtain rfl : ad285 = ad286 := (by injection e286)
                  replace hx286_0 := (HB.out.cell (World.block_lt_of_cell? w _ hx286_0)).trans hx286_0
                  replace hx286_1 := (HB.out.cell (World.block_lt_of_cell? w _ hx286_1)).trans hx286_1
                  replace hx286_2 := (HB.out.cell (World.block_lt_of_cell? w _ hx286_2)).trans hx286_2
                  replace hx286_3 := (HB.out.cell (World.block_lt_of_cell? w _ hx286_3)).trans hx286_3
                  replace hx286_4 := (HB.out.cell (World.block_lt_of_cell? w _ hx286_4)).trans hx286_4
                  have HR286_2 := Aside0.mk hi286_2
                  have HC286_2 := Aside0.mk hl286_2
                  clear hi286_2 hl286_2
                  have HR286_3 := Aside0.mk hi286_3
                  have HC286_3 := Aside0.mk hl286_3
                  clear hi286_3 hl286_3
                  have HR286_4 := Aside0.mk hi286_4
                  have HC286_4 := Aside0.mk hl286_4
                  clear hi286_4 hl286_4
                  replace p286 := eq_true p286
                  replace q286 := eq_true q286
                  refine start_ (n := 8) (S := fun w' => w'.cell? ⟨gb284, 0, none⟩ = some (.string a1_0) ∧ w'.cell? ⟨gb284, 1, none⟩ = some (.bool true) ∧ w'.cell? ⟨gb284, 2, none⟩ = some (.string a1_2) ∧ w'.cell? ⟨gb284, 3, none⟩ = some (.int .u32 a1_3) ∧ w'.cell? (ad285.add ((x9_1).toNat * 5)) = some (.int .i64 ((rd_T43 l0 x9_1).f0)) ∧ w'.cell? ⟨(ad285.add ((x9_1).toNat * 5)).block, (ad285.add ((x9_1).toNat * 5)).off + 1, none⟩ = some (.int .u32 ((rd_T43 l0 x9_1).f1)) ∧ w'.cell? ⟨(ad285.add ((x9_1).toNat * 5)).block, (ad285.add ((x9_1).toNat * 5)).off + 2, none⟩ = some (.slice A286_2 ((rd_T43 l0 x9_1).f2).length c286_2) ∧ w'.cell? ⟨(ad285.add ((x9_1).toNat * 5)).block, (ad285.add ((x9_1).toNat * 5)).off + 3, none⟩ = some (.slice A286_3 ((rd_T43 l0 x9_1).f3).length c286_3) ∧ w'.cell? ⟨(ad285.add ((x9_1).toNat * 5)).block, (ad285.add ((x9_1).toNat * 5)).off + 4, none⟩ = some (.slice A286_4 ((rd_T43 l0 x9_1).f4).length c286_4)) (ds := []) #[false, false, false, false, false, false, false, false] (by kernel_rfl) rfl rfl ⟨(blk_cell BK284.out 0).trans rfl, (blk_cell BK284.out 1).trans rfl, (blk_cell BK284.out 2).trans rfl, (blk_cell BK284.out 3).trans rfl, ((HB.out.cell (World.block_lt_of_cell? w _ hw286_0)).trans hw286_0), ((HB.out.cell (World.block_lt_of_cell? w _ hw286_1)).trans hw286_1), ((HB.out.cell (World.block_lt_of_cell? w _ hw286_2)).trans hw286_2), ((HB.out.cell (World.block_lt_of_cell? w _ hw286_3)).trans hw286_3), ((HB.out.cell (World.block_lt_of_cell? w _ hw286_4)).trans hw286_4)⟩ (fun hHeld => ?_); refine with_tabW cachepotref3_later.tab6 cachepotref3_later.bits6 (fun HT_ HW_ => ?_)
                  generalize wr.drew = w15 at BK284 HB HR286_2 HR286_3 HR286_4 hx286_0 hx286_1 hx286_2 hx286_3 hx286_4 hHeld ⊢
                  refine pure_ (i := 0) (N := some 26) (v := ?_) (a' := ?_) #[true, false, false, false, false, false, false, false] rfl rfl (any_of HT_.out (by kernel_rfl)) (fun _ _ _ h => h) (Or.inl ⟨by rfl, ?_⟩) ?_ ?_
                  rotate_left
                  · intro w'
                    go_simp
                    with_reducible rfl
                  rotate_left
                  · simp only [Act.put, List.setIfInBounds_toArray, List.set_cons_zero, List.set_cons_succ, i64_w, i32_w]
                    rfl
                  refine pure_ (i := 1) (N := some 27) (v := ?_) (a' := ?_) #[true, true, false, false, false, false, false, false] rfl rfl (any_of HT_.out (by kernel_rfl)) (fun _ _ _ h => h) (Or.inl ⟨by rfl, ?_⟩) ?_ ?_
                  rotate_left
                  · intro w'
                    go_simp
                    with_reducible rfl
                  rotate_left
                  · simp only [Act.put, List.setIfInBounds_toArray, List.set_cons_zero, List.set_cons_succ, i64_w, i32_w]
                    rfl
                  refine pure_ (i := 2) (N := some 28) (v := ?_) (a' := ?_) #[true, true, true, false, false, false, false, false] rfl rfl (any_of HT_.out (by kernel_rfl)) (fun _ _ _ h => h) (Or.inl ⟨by rfl, ?_⟩) ?_ ?_
                  rotate_left
                  · intro w'
                    go_simp
                    with_reducible rfl
                  rotate_left
                  · simp only [Act.put, List.setIfInBounds_toArray, List.set_cons_zero, List.set_cons_succ, i64_w, i32_w]
                    rfl
                  refine pure_ (i := 3) (N := some 29) (v := ?_) (a' := ?_) #[true, true, true, true, false, false, false, false] rfl rfl (any_of HT_.out (by kernel_rfl)) (fun _ _ _ h => h) (Or.inl ⟨by rfl, ?_⟩) ?_ ?_
                  rotate_left
                  · intro w'
                    go_simp
                    with_reducible rfl
                  rotate_left
                  · simp only [Act.put, List.setIfInBounds_toArray, List.set_cons_zero, List.set_cons_succ, i64_w, i32_w]
                    rfl
                  refine pure_ (i := 5) (N := some 31) (v := ?_) (a' := ?_) #[true, true, true, true, false, true, false, false] rfl rfl (any_of HT_.out (by kernel_rfl)) (fun _ _ _ h => h) (Or.inl ⟨by rfl, ?_⟩) ?_ ?_
                  rotate_left
                  · intro w'
                    go_simp
                    with_reducible rfl
                  rotate_left
                  · simp only [Act.put, List.setIfInBounds_toArray, List.set_cons_zero, List.set_cons_succ, i64_w, i32_w]
                    rfl
                  refine take_ (i := 4) (N := some 30) (v := ?_) (a' := ?_) #[true, true, true, true, true, true, false, false] rfl rfl (take_ofW HT_.out HW_.out (by kernel_rfl)) (fun _ _ _ h => h) (Or.inl ⟨by rfl, ?_⟩) hHeld ?_ ?_
                  rotate_left
                  · rintro w' ⟨s0, s1, s2, s3, s4, s5, s6, s7, s8⟩
                    go_simp
                    with_reducible rfl
                  rotate_left
                  · simp only [Act.put, List.setIfInBounds_toArray, List.set_cons_zero, List.set_cons_succ, i64_w, i32_w]
                    rfl
                  refine take_ (i := 6) (N := some 32) (v := ?_) (a' := ?_) #[true, true, true, true, true, true, true, false] rfl rfl (take_ofW HT_.out HW_.out (by kernel_rfl)) (fun _ _ _ h => h) (Or.inl ⟨by rfl, ?_⟩) hHeld ?_ ?_
                  rotate_left
                  · rintro w' ⟨s0, s1, s2, s3, s4, s5, s6, s7, s8⟩
                    go_simp
                    with_reducible rfl
                  rotate_left
                  · simp only [Act.put, List.setIfInBounds_toArray, List.set_cons_zero, List.set_cons_succ, i64_w, i32_w]
                    rfl
                  refine pure_ (i := 7) (N := some 33) (v := ?_) (a' := ?_) #[true, true, true, true, true, true, true, true] rfl rfl (any_of HT_.out (by kernel_rfl)) (fun _ _ _ h => h) (Or.inl ⟨by rfl, ?_⟩) ?_ ?_
                  rotate_left
                  · intro w'
                    go_simp
                    with_reducible rfl
                  rotate_left
                  · simp only [Act.put, List.setIfInBounds_toArray, List.set_cons_zero, List.set_cons_succ, i64_w, i32_w]
                    rfl
                  refine done_ (done_of HT_.out (by kernel_rfl)) ?_
                  try go_wp2
                  go_roundg k1
                  case measure => have := HK1.out; omega
                  case rel => exact ⟨(wrap64 (x9_1 + 1)), (by first | rfl | (simp; done) | (simp [*]; done)), H', ⟨by have := HK1.out; omega⟩, ⟨by (with_reducible repeat (first | refine blk_drewN ?_ _ | refine blk_drew ?_ | refine blk_alloc ?_ _)); exact BK284.out⟩, ⟨by repeat (first | (with_reducible first | exact HB.out | apply below_alloc | apply pw_below_drewN | apply below_drew1 | refine below_set ?_ GE284.out) | exact HB.out)⟩⟩
              · replace c10 := Bool.eq_false_iff.mpr c10
                subst c10
                have H1 : ((cachepotref1_BatchFind.f k1 ((rd_T43 l0 x9_1).f2) a1_0).bind fun bt288 => (if bt288.2.2.2 = true then (if bt288.2.1 = true then (some true) else (cachepotref3_later.l0 k1 l0 a3 (wrap64 (x9_1 + 1)) a1_0 false a1_2 a1_3)) else (cachepotref3_later.l0 k1 l0 a3 (wrap64 (x9_1 + 1)) a1_0 false a1_2 a1_3))) = some r := by rw [if_neg (show ¬ (false = true) by decide)] at H; exact H
                clear H
                have H := H1
                clear H1
                replace H := Option.bind_eq_some_iff.mp H
                obtain ⟨⟨t288, t289, t290, t291⟩, A160, H⟩ := H
                replace H : (if t291 = true then (if t289 = true then (some true) else (cachepotref3_later.l0 k1 l0 a3 (wrap64 (x9_1 + 1)) a1_0 false a1_2 a1_3)) else (cachepotref3_later.l0 k1 l0 a3 (wrap64 (x9_1 + 1)) a1_0 false a1_2 a1_3)) = some r := H
                have A16 := Aside0.mk A160
                clear A160
                by_cases c17 : t291 = true
                · subst c17
                  have H1 : (if t289 = true then (some true) else (cachepotref3_later.l0 k1 l0 a3 (wrap64 (x9_1 + 1)) a1_0 false a1_2 a1_3)) = some r := by rw [if_pos rfl] at H; exact H
                  clear H
                  have H := H1
                  clear H1
                  by_cases c18 : t289 = true
                  · subst c18
                    have H1 : (some true) = some r := by rw [if_pos rfl] at H; exact H
                    clear H
                    have H := H1
                    clear H1
                    obtain rfl := Option.some.inj H
                    have p285 : 0 ≤ (x9_1 : Int) := of_decide_eq_true (by first | (with_reducible assumption) | assumption)
                    have q285 : x9_1 < (l0.length : Int) := of_decide_eq_true (by first | (with_reducible assumption) | assumption)
                    obtain ⟨ad285, A285_2, c285_2, A285_3, c285_3, A285_4, c285_4, e285, hx285_0, hx285_1, hx285_2, hx285_3, hx285_4, hl285_2, hi285_2, hl285_3, hi285_3, hl285_4, hi285_4⟩ := at_T43 HR0.out x9_1 p285 q285
                    cases e285
                    replace hx285_0 := (HB.out.cell (World.block_lt_of_cell? w _ hx285_0)).trans hx285_0
                    replace hx285_1 := (HB.out.cell (World.block_lt_of_cell? w _ hx285_1)).trans hx285_1
                    replace hx285_2 := (HB.out.cell (World.block_lt_of_cell? w _ hx285_2)).trans hx285_2
                    replace hx285_3 := (HB.out.cell (World.block_lt_of_cell? w _ hx285_3)).trans hx285_3
                    replace hx285_4 := (HB.out.cell (World.block_lt_of_cell? w _ hx285_4)).trans hx285_4
                    have HR285_2 := Aside0.mk hi285_2
                    have HC285_2 := Aside0.mk hl285_2
                    clear hi285_2 hl285_2
                    have HR285_3 := Aside0.mk hi285_3
                    have HC285_3 := Aside0.mk hl285_3
                    clear hi285_3 hl285_3
                    have HR285_4 := Aside0.mk hi285_4
                    have HC285_4 := Aside0.mk hl285_4
                    clear hi285_4 hl285_4
                    replace p285 := eq_true p285
                    replace q285 := eq_true q285
                    have hcz19_0 : wr.cell? ⟨gb284, 0, none⟩ = some (.string a1_0) := (blk_cell BK284.out 0).trans rfl
                    have hcz19_1 : wr.cell? ⟨gb284, 1, none⟩ = some (.bool false) := (blk_cell BK284.out 1).trans rfl
                    have hcz19_2 : wr.cell? ⟨gb284, 2, none⟩ = some (.string a1_2) := (blk_cell BK284.out 2).trans rfl
                    have hcz19_3 : wr.cell? ⟨gb284, 3, none⟩ = some (.int .u32 a1_3) := (blk_cell BK284.out 3).trans rfl
                    have hfz19_0 := blk_frozen BK284.out 0
                    have hfz19_1 := blk_frozen BK284.out 1
                    have hfz19_2 := blk_frozen BK284.out 2
                    have hfz19_3 := blk_frozen BK284.out 3
                    try go_wp2
                    have n0_ := Aside0.mk (blk_drew BK284.out)
                    have n1_ := Aside0.mk (below_drew1 HB.out)
                    clear BK284
                    clear HB
                    have BK284 := n0_
                    have HB := n1_
                    clear n0_ n1_
                    have p287 : 0 ≤ (x9_1 : Int) := of_decide_eq_true (by first | (with_reducible assumption) | assumption)
                    have q287 : x9_1 < (l0.length : Int) := of_decide_eq_true (by first | (with_reducible assumption) | assumption)
                    obtain ⟨ad287, A287_2, c287_2, A287_3, c287_3, A287_4, c287_4, e287, hx287_0, hx287_1, hx287_2, hx287_3, hx287_4, hl287_2, hi287_2, hl287_3, hi287_3, hl287_4, hi287_4⟩ := at_T43 HR0.out x9_1 p287 q287
                    have hw287_4 := hx287_4
                    have hw287_3 := hx287_3
                    have hw287_2 := hx287_2
                    have hw287_1 := hx287_1
                    have hw287_0 := hx287_0
                    obtain rfl : ad285 = ad287 := (by injection e287)
                    replace hx287_0 := (HB.out.cell (World.block_lt_of_cell? w _ hx287_0)).trans hx287_0
                    replace hx287_1 := (HB.out.cell (World.block_lt_of_cell? w _ hx287_1)).trans hx287_1
                    replace hx287_2 := (HB.out.cell (World.block_lt_of_cell? w _ hx287_2)).trans hx287_2
                    replace hx287_3 := (HB.out.cell (World.block_lt_of_cell? w _ hx287_3)).trans hx287_3
                    replace hx287_4 := (HB.out.cell (World.block_lt_of_cell? w _ hx287_4)).trans hx287_4
                    have HR287_2 := Aside0.mk hi287_2
                    have HC287_2 := Aside0.mk hl287_2
                    clear hi287_2 hl287_2
                    have HR287_3 := Aside0.mk hi287_3
                    have HC287_3 := Aside0.mk hl287_3
                    clear hi287_3 hl287_3
                    have HR287_4 := Aside0.mk hi287_4
                    have HC287_4 := Aside0.mk hl287_4
                    clear hi287_4 hl287_4
                    replace p287 := eq_true p287
                    replace q287 := eq_true q287
                    refine start_ (n := 14) (S := fun w' => w'.cell? ⟨gb284, 0, none⟩ = some (.string a1_0) ∧ w'.cell? ⟨gb284, 1, none⟩ = some (.bool false) ∧ w'.cell? ⟨gb284, 2, none⟩ = some (.string a1_2) ∧ w'.cell? ⟨gb284, 3, none⟩ = some (.int .u32 a1_3) ∧ w'.cell? (ad285.add ((x9_1).toNat * 5)) = some (.int .i64 ((rd_T43 l0 x9_1).f0)) ∧ w'.cell? ⟨(ad285.add ((x9_1).toNat * 5)).block, (ad285.add ((x9_1).toNat * 5)).off + 1, none⟩ = some (.int .u32 ((rd_T43 l0 x9_1).f1)) ∧ w'.cell? ⟨(ad285.add ((x9_1).toNat * 5)).block, (ad285.add ((x9_1).toNat * 5)).off + 2, none⟩ = some (.slice A287_2 ((rd_T43 l0 x9_1).f2).length c287_2) ∧ w'.cell? ⟨(ad285.add ((x9_1).toNat * 5)).block, (ad285.add ((x9_1).toNat * 5)).off + 3, none⟩ = some (.slice A287_3 ((rd_T43 l0 x9_1).f3).length c287_3) ∧ w'.cell? ⟨(ad285.add ((x9_1).toNat * 5)).block, (ad285.add ((x9_1).toNat * 5)).off + 4, none⟩ = some (.slice A287_4 ((rd_T43 l0 x9_1).f4).length c287_4)) (ds := []) #[false, false, false, false, false, false, false, false, false, false, false, false, false, false] (by kernel_rfl) rfl rfl ⟨(blk_cell BK284.out 0).trans rfl, (blk_cell BK284.out 1).trans rfl, (blk_cell BK284.out 2).trans rfl, (blk_cell BK284.out 3).trans rfl, ((HB.out.cell (World.block_lt_of_cell? w _ hw287_0)).trans hw287_0), ((HB.out.cell (World.block_lt_of_cell? w _ hw287_1)).trans hw287_1), ((HB.out.cell (World.block_lt_of_cell? w _ hw287_2)).trans hw287_2), ((HB.out.cell (World.block_lt_of_cell? w _ hw287_3)).trans hw287_3), ((HB.out.cell (World.block_lt_of_cell? w _ hw287_4)).trans hw287_4)⟩ (fun hHeld => ?_); refine with_tabW cachepotref3_later.tab8 cachepotref3_later.bits8 (fun HT_ HW_ => ?_)
                    generalize wr.drew = w20 at BK284 HB HR287_2 HR287_3 HR287_4 hx287_0 hx287_1 hx287_2 hx287_3 hx287_4 hHeld ⊢
                    refine pure_ (i := 0) (N := some 35) (v := ?_) (a' := ?_) #[true, false, false, false, false, false, false, false, false, false, false, false, false, false] rfl rfl (any_of HT_.out (by kernel_rfl)) (fun _ _ _ h => h) (Or.inl ⟨by rfl, ?_⟩) ?_ ?_
                    rotate_left
                    · intro w'
                      go_simp
                      with_reducible rfl
                    rotate_left
                    · simp only [Act.put, List.setIfInBounds_toArray, List.set_cons_zero, List.set_cons_succ, i64_w, i32_w]
                      rfl
                    refine pure_ (i := 1) (N := some 36) (v := ?_) (a' := ?_) #[true, true, false, false, false, false, false, false, false, false, false, false, false, false] rfl rfl (any_of HT_.out (by kernel_rfl)) (fun _ _ _ h => h) (Or.inl ⟨by rfl, ?_⟩) ?_ ?_
                    rotate_left
                    · intro w'
                      go_simp
                      with_reducible rfl
                    rotate_left
                    · simp only [Act.put, List.setIfInBounds_toArray, List.set_cons_zero, List.set_cons_succ, i64_w, i32_w]
                      rfl
                    refine pure_ (i := 2) (N := some 37) (v := ?_) (a' := ?_) #[true, true, true, false, false, false, false, false, false, false, false, false, false, false] rfl rfl (any_of HT_.out (by kernel_rfl)) (fun _ _ _ h => h) (Or.inl ⟨by rfl, ?_⟩) ?_ ?_
                    rotate_left
                    · intro w'
                      go_simp
                      with_reducible rfl
                    rotate_left
                    · simp only [Act.put, List.setIfInBounds_toArray, List.set_cons_zero, List.set_cons_succ, i64_w, i32_w]
                      rfl
                    refine pure_ (i := 3) (N := some 38) (v := ?_) (a' := ?_) #[true, true, true, true, false, false, false, false, false, false, false, false, false, false] rfl rfl (any_of HT_.out (by kernel_rfl)) (fun _ _ _ h => h) (Or.inl ⟨by rfl, ?_⟩) ?_ ?_
                    rotate_left
                    · intro w'
                      go_simp
                      with_reducible rfl
                    rotate_left
                    · simp only [Act.put, List.setIfInBounds_toArray, List.set_cons_zero, List.set_cons_succ, i64_w, i32_w]
                      rfl
                    refine pure_ (i := 5) (N := some 40) (v := ?_) (a' := ?_) #[true, true, true, true, false, true, false, false, false, false, false, false, false, false] rfl rfl (any_of HT_.out (by kernel_rfl)) (fun _ _ _ h => h) (Or.inl ⟨by rfl, ?_⟩) ?_ ?_
                    rotate_left
                    · intro w'
                      go_simp
                      with_reducible rfl
                    rotate_left
                    · simp only [Act.put, List.setIfInBounds_toArray, List.set_cons_zero, List.set_cons_succ, i64_w, i32_w]
                      rfl
                    refine take_ (i := 4) (N := some 39) (v := ?_) (a' := ?_) #[true, true, true, true, true, true, false, false, false, false, false, false, false, false] rfl rfl (take_ofW HT_.out HW_.out (by kernel_rfl)) (fun _ _ _ h => h) (Or.inl ⟨by rfl, ?_⟩) hHeld ?_ ?_
                    rotate_left
                    · rintro w' ⟨s0, s1, s2, s3, s4, s5, s6, s7, s8⟩
                      go_simp
                      with_reducible rfl
                    rotate_left
                    · simp only [Act.put, List.setIfInBounds_toArray, List.set_cons_zero, List.set_cons_succ, i64_w, i32_w]
                      rfl
                    refine take_ (i := 6) (N := some 41) (v := ?_) (a' := ?_) #[true, true, true, true, true, true, true, false, false, false, false, false, false, false] rfl rfl (take_ofW HT_.out HW_.out (by kernel_rfl)) (fun _ _ _ h => h) (Or.inl ⟨by rfl, ?_⟩) hHeld ?_ ?_
                    rotate_left
                    · rintro w' ⟨s0, s1, s2, s3, s4, s5, s6, s7, s8⟩
                      go_simp
                      with_reducible rfl
                    rotate_left
                    · simp only [Act.put, List.setIfInBounds_toArray, List.set_cons_zero, List.set_cons_succ, i64_w, i32_w]
                      rfl
                    refine join_ (σ := Nat) 2 #[true, true, true, true, true, true, true, true, true, true, true, true, false, false] (fun s_ => [(42, .tuple #[.agg #[.string t288, .bool true, .string t290], .bool true]), (10, .pointer (some ⟨s_, 0, none⟩)), (34, .tuple #[.agg #[.string t288, .bool true, .string t290], .bool true]), (43, .agg #[.string t288, .bool true, .string t290]), (44, .bool true)]) (fun s_ w' => (w'.cell? ⟨gb284, 0, none⟩ = some (.string a1_0) ∧ w'.cell? ⟨gb284, 1, none⟩ = some (.bool false) ∧ w'.cell? ⟨gb284, 2, none⟩ = some (.string a1_2) ∧ w'.cell? ⟨gb284, 3, none⟩ = some (.int .u32 a1_3) ∧ w'.cell? (ad285.add ((x9_1).toNat * 5)) = some (.int .i64 ((rd_T43 l0 x9_1).f0)) ∧ w'.cell? ⟨(ad285.add ((x9_1).toNat * 5)).block, (ad285.add ((x9_1).toNat * 5)).off + 1, none⟩ = some (.int .u32 ((rd_T43 l0 x9_1).f1)) ∧ w'.cell? ⟨(ad285.add ((x9_1).toNat * 5)).block, (ad285.add ((x9_1).toNat * 5)).off + 2, none⟩ = some (.slice A287_2 ((rd_T43 l0 x9_1).f2).length c287_2) ∧ w'.cell? ⟨(ad285.add ((x9_1).toNat * 5)).block, (ad285.add ((x9_1).toNat * 5)).off + 3, none⟩ = some (.slice A287_3 ((rd_T43 l0 x9_1).f3).length c287_3) ∧ w'.cell? ⟨(ad285.add ((x9_1).toNat * 5)).block, (ad285.add ((x9_1).toNat * 5)).off + 4, none⟩ = some (.slice A287_4 ((rd_T43 l0 x9_1).f4).length c287_4)) ∧ (w'.heap[gb284]? = some (.cells #[.string a1_0, .bool false, .string a1_2, .int .u32 a1_3] 98 (0, 0))) ∧ (w'.heap[s_]? = some (.cells #[.string (⟨#[]⟩ : ByteArray), .bool false, .string (⟨#[]⟩ : ByteArray)] 101 (0, 0))) ∧ (w.heap.size ≤ s_) ∧ (w.heap.size ≤ s_) ∧ (gb284 ≠ s_) ∧ (s_ ≠ gb284) ∧ (Below w.heap.size w w')) ?_ ?_
                    rotate_left
                    · intro hCont
                      refine two_ (i := 7) (j := 11) (Ni := some 42) (Nj := some 10) #[true, true, true, true, true, true, true, true, false, false, false, false, false, false] #[true, true, true, true, true, true, true, false, false, false, false, true, false, false] rfl rfl rfl rfl (two_of HT_.out (by kernel_rfl)) (by decide) (by decide) (fun K hK => ?_) (fun K hK => ?_)
                      · skip
                        refine goes_ Tryd.func107 (by kernel_rfl) rfl #[.slice A287_2 ((rd_T43 l0 x9_1).f2).length c287_2, .string a1_0] (by rfl) rfl rfl (by (try simp only [List.map_toArray, List.map_cons, List.map_nil]); first | done | rfl | (simp only [List.length_drop, List.length_take]; rfl)) ?_
                        with_reducible refine (cachepotref1_BatchFind.calls k1 _ _ ((rd_T43 l0 x9_1).f2) a1_0 t288 true t290 true _ ?side1 ?side2 A16.out).mono ?_
                        (case side1 => repeat (first | exact (Kd.C_below HR287_2.out HB.out) | (with_reducible refine Kd.C_alloc ?_ _) | (with_reducible refine Kd.C_drewN ?_ _) | (with_reducible refine Kd.C_drew ?_)))
                        (case side2 => exact HC287_2.out)
                        rintro e w21 ⟨rfl, hb⟩
                        refine ⟨_, rfl, ?_⟩
                        have n0_ := Aside0.mk (blk_below (g := gb284) (o := .cells #[.string a1_0, .bool false, .string a1_2, .int .u32 a1_3] 98 (0, 0)) (by (with_reducible repeat (first | refine blk_drewN ?_ _ | refine blk_drew ?_ | refine blk_alloc ?_ _)); exact BK284.out) hb)
                        have n1_ := Aside0.mk (below_step (by repeat (first | (with_reducible first | exact HB.out | apply below_alloc | apply pw_below_drewN | apply below_drew1 | refine below_set ?_ GE284.out) | exact HB.out)) hb)
                        clear BK284
                        clear HB
                        have BK284 := n0_
                        have HB := n1_
                        clear n0_ n1_
                        (try clear hb)
                        (try clear hb2)
                        (try clear hk)
                        (try clear hi)
                        refine hK.out _ _ ⟨(blk_cell BK284.out 0).trans rfl, (blk_cell BK284.out 1).trans rfl, (blk_cell BK284.out 2).trans rfl, (blk_cell BK284.out 3).trans rfl, ((HB.out.cell (World.block_lt_of_cell? w _ hw287_0)).trans hw287_0), ((HB.out.cell (World.block_lt_of_cell? w _ hw287_1)).trans hw287_1), ((HB.out.cell (World.block_lt_of_cell? w _ hw287_2)).trans hw287_2), ((HB.out.cell (World.block_lt_of_cell? w _ hw287_3)).trans hw287_3), ((HB.out.cell (World.block_lt_of_cell? w _ hw287_4)).trans hw287_4)⟩ (fun hHeld => ?_)
                        clear hK K
                        refine norm_ (a' := ?_) ?_ ?_
                        rotate_left
                        · show Act.put _ (some 42) _ = _
                          simp only [Act.put, List.setIfInBounds_toArray, List.set_cons_zero, List.set_cons_succ, i64_w, i32_w]
                          rfl
                        refine pure_ (i := 8) (N := some 34) (v := ?_) (a' := ?_) #[true, true, true, true, true, true, true, true, true, false, false, false, false, false] rfl rfl (any_of HT_.out (by kernel_rfl)) (fun _ _ _ h => h) (Or.inl ⟨by rfl, ?_⟩) ?_ ?_
                        rotate_left
                        · intro w'
                          go_simp
                          with_reducible rfl
                        rotate_left
                        · simp only [Act.put, List.setIfInBounds_toArray, List.set_cons_zero, List.set_cons_succ, i64_w, i32_w]
                          rfl
                        refine pure_ (i := 9) (N := some 43) (v := ?_) (a' := ?_) #[true, true, true, true, true, true, true, true, true, true, false, false, false, false] rfl rfl (any_of HT_.out (by kernel_rfl)) (fun _ _ _ h => h) (Or.inl ⟨by rfl, ?_⟩) ?_ ?_
                        rotate_left
                        · intro w'
                          go_simp
                          with_reducible rfl
                        rotate_left
                        · simp only [Act.put, List.setIfInBounds_toArray, List.set_cons_zero, List.set_cons_succ, i64_w, i32_w]
                          rfl
                        refine pure_ (i := 10) (N := some 44) (v := ?_) (a' := ?_) #[true, true, true, true, true, true, true, true, true, true, true, false, false, false] rfl rfl (any_of HT_.out (by kernel_rfl)) (fun _ _ _ h => h) (Or.inl ⟨by rfl, ?_⟩) ?_ ?_
                        rotate_left
                        · intro w'
                          go_simp
                          with_reducible rfl
                        rotate_left
                        · simp only [Act.put, List.setIfInBounds_toArray, List.set_cons_zero, List.set_cons_succ, i64_w, i32_w]
                          rfl
                        refine one_ (i := 11) (N := some 10) #[true, true, true, true, true, true, true, true, true, true, true, true, false, false] rfl rfl (one_of HT_.out (by kernel_rfl)) (by decide) (fun K hK => ?_)
                        refine box_step ?hg (N := 10) ?hd (cs := #[.string (⟨#[]⟩ : ByteArray), .bool false, .string (⟨#[]⟩ : ByteArray)]) (t := 101) ?hr ?_; (case hd => rfl); (case hg => rfl); (case hr => first | (go_simp; done) | (go_simp; rfl))
                        intro gb292 hg w22 hbox hb
                        have n0_ := Aside0.mk (blk_below (g := gb284) (o := .cells #[.string a1_0, .bool false, .string a1_2, .int .u32 a1_3] 98 (0, 0)) (by (with_reducible repeat (first | refine blk_drewN ?_ _ | refine blk_drew ?_ | refine blk_alloc ?_ _)); exact BK284.out) hb)
                        have n1_ := Aside0.mk (below_step (by repeat (first | (with_reducible first | exact HB.out | apply below_alloc | apply pw_below_drewN | apply below_drew1 | refine below_set ?_ GE284.out) | exact HB.out)) hb)
                        have n2_ := Aside0.mk (hbox)
                        have n3_ := Aside0.mk ((by rw [hg]; exact (below_size (by repeat (first | (with_reducible first | exact HB.out | apply below_alloc | apply pw_below_drewN | apply below_drew1 | refine below_set ?_ GE284.out) | exact HB.out))) : w.heap.size ≤ gb292))
                        have n4_ := Aside0.mk ((by rw [hg]; exact (below_size (by repeat (first | (with_reducible first | exact HB.out | apply below_alloc | apply pw_below_drewN | apply below_drew1 | refine below_set ?_ GE284.out) | exact HB.out))) : w.heap.size ≤ gb292))
                        have n5_ := Aside0.mk ((by rw [hg]; exact Nat.ne_of_lt (blk_lt (g := gb284) (o := .cells #[.string a1_0, .bool false, .string a1_2, .int .u32 a1_3] 98 (0, 0)) (by (with_reducible repeat (first | refine blk_drewN ?_ _ | refine blk_drew ?_ | refine blk_alloc ?_ _)); exact BK284.out)) : gb284 ≠ gb292))
                        have n6_ := Aside0.mk ((by rw [hg]; exact Nat.ne_of_gt (blk_lt (g := gb284) (o := .cells #[.string a1_0, .bool false, .string a1_2, .int .u32 a1_3] 98 (0, 0)) (by (with_reducible repeat (first | refine blk_drewN ?_ _ | refine blk_drew ?_ | refine blk_alloc ?_ _)); exact BK284.out)) : gb292 ≠ gb284))
                        clear BK284
                        clear HB
                        have BK284 := n0_
                        have HB := n1_
                        have BK292 := n2_
                        have GW292 := n3_
                        have GE292 := n4_
                        have NB284_292 := n5_
                        have NB292_284 := n6_
                        clear n0_ n1_ n2_ n3_ n4_ n5_ n6_
                        clear hb hbox hg
                        refine hK.out _ _ ⟨(blk_cell BK284.out 0).trans rfl, (blk_cell BK284.out 1).trans rfl, (blk_cell BK284.out 2).trans rfl, (blk_cell BK284.out 3).trans rfl, ((HB.out.cell (World.block_lt_of_cell? w _ hw287_0)).trans hw287_0), ((HB.out.cell (World.block_lt_of_cell? w _ hw287_1)).trans hw287_1), ((HB.out.cell (World.block_lt_of_cell? w _ hw287_2)).trans hw287_2), ((HB.out.cell (World.block_lt_of_cell? w _ hw287_3)).trans hw287_3), ((HB.out.cell (World.block_lt_of_cell? w _ hw287_4)).trans hw287_4)⟩ (fun hHeld => ?_)
                        clear hK K
                        refine norm_ (a' := ?_) ?_ ?_
                        rotate_left
                        · show Act.put _ (some 10) _ = _
                          simp only [Act.put, List.setIfInBounds_toArray, List.set_cons_zero, List.set_cons_succ, i64_w, i32_w]
                          rfl
                        exact norm_ (by simp only [putAll, Act.put, List.setIfInBounds_toArray, List.set_cons_zero, List.set_cons_succ]) (hCont (gb292) _ ⟨hHeld, (by (with_reducible repeat (first | refine blk_drewN ?_ _ | refine blk_drew ?_ | refine blk_alloc ?_ _)); exact BK284.out), (by (with_reducible repeat (first | refine blk_drewN ?_ _ | refine blk_drew ?_ | refine blk_alloc ?_ _)); exact BK292.out), GW292.out, GE292.out, NB284_292.out, NB292_284.out, (by repeat (first | (with_reducible first | exact HB.out | apply below_alloc | apply pw_below_drewN | apply below_drew1 | refine below_set ?_ GE284.out | refine below_set ?_ GE292.out) | exact HB.out))⟩)
                      · skip
                        refine box_step ?hg (N := 10) ?hd (cs := #[.string (⟨#[]⟩ : ByteArray), .bool false, .string (⟨#[]⟩ : ByteArray)]) (t := 101) ?hr ?_; (case hd => rfl); (case hg => rfl); (case hr => first | (go_simp; done) | (go_simp; rfl))
                        intro gb292 hg w21 hbox hb
                        have n0_ := Aside0.mk (blk_below (g := gb284) (o := .cells #[.string a1_0, .bool false, .string a1_2, .int .u32 a1_3] 98 (0, 0)) (by (with_reducible repeat (first | refine blk_drewN ?_ _ | refine blk_drew ?_ | refine blk_alloc ?_ _)); exact BK284.out) hb)
                        have n1_ := Aside0.mk (below_step (by repeat (first | (with_reducible first | exact HB.out | apply below_alloc | apply pw_below_drewN | apply below_drew1 | refine below_set ?_ GE284.out) | exact HB.out)) hb)
                        have n2_ := Aside0.mk (hbox)
                        have n3_ := Aside0.mk ((by rw [hg]; exact (below_size (by repeat (first | (with_reducible first | exact HB.out | apply below_alloc | apply pw_below_drewN | apply below_drew1 | refine below_set ?_ GE284.out) | exact HB.out))) : w.heap.size ≤ gb292))
                        have n4_ := Aside0.mk ((by rw [hg]; exact (below_size (by repeat (first | (with_reducible first | exact HB.out | apply below_alloc | apply pw_below_drewN | apply below_drew1 | refine below_set ?_ GE284.out) | exact HB.out))) : w.heap.size ≤ gb292))
                        have n5_ := Aside0.mk ((by rw [hg]; exact Nat.ne_of_lt (blk_lt (g := gb284) (o := .cells #[.string a1_0, .bool false, .string a1_2, .int .u32 a1_3] 98 (0, 0)) (by (with_reducible repeat (first | refine blk_drewN ?_ _ | refine blk_drew ?_ | refine blk_alloc ?_ _)); exact BK284.out)) : gb284 ≠ gb292))
                        have n6_ := Aside0.mk ((by rw [hg]; exact Nat.ne_of_gt (blk_lt (g := gb284) (o := .cells #[.string a1_0, .bool false, .string a1_2, .int .u32 a1_3] 98 (0, 0)) (by (with_reducible repeat (first | refine blk_drewN ?_ _ | refine blk_drew ?_ | refine blk_alloc ?_ _)); exact BK284.out)) : gb292 ≠ gb284))
                        clear BK284
                        clear HB
                        have BK284 := n0_
                        have HB := n1_
                        have BK292 := n2_
                        have GW292 := n3_
                        have GE292 := n4_
                        have NB284_292 := n5_
                        have NB292_284 := n6_
                        clear n0_ n1_ n2_ n3_ n4_ n5_ n6_
                        clear hb hbox hg
                        refine hK.out _ _ ⟨(blk_cell BK284.out 0).trans rfl, (blk_cell BK284.out 1).trans rfl, (blk_cell BK284.out 2).trans rfl, (blk_cell BK284.out 3).trans rfl, ((HB.out.cell (World.block_lt_of_cell? w _ hw287_0)).trans hw287_0), ((HB.out.cell (World.block_lt_of_cell? w _ hw287_1)).trans hw287_1), ((HB.out.cell (World.block_lt_of_cell? w _ hw287_2)).trans hw287_2), ((HB.out.cell (World.block_lt_of_cell? w _ hw287_3)).trans hw287_3), ((HB.out.cell (World.block_lt_of_cell? w _ hw287_4)).trans hw287_4)⟩ (fun hHeld => ?_)
                        clear hK K
                        refine norm_ (a' := ?_) ?_ ?_
                        rotate_left
                        · show Act.put _ (some 10) _ = _
                          simp only [Act.put, List.setIfInBounds_toArray, List.set_cons_zero, List.set_cons_succ, i64_w, i32_w]
                          rfl
                        refine one_ (i := 7) (N := some 42) #[true, true, true, true, true, true, true, true, false, false, false, true, false, false] rfl rfl (one_of HT_.out (by kernel_rfl)) (by decide) (fun K hK => ?_)
                        refine goes_ Tryd.func107 (by kernel_rfl) rfl #[.slice A287_2 ((rd_T43 l0 x9_1).f2).length c287_2, .string a1_0] (by rfl) rfl rfl (by (try simp only [List.map_toArray, List.map_cons, List.map_nil]); first | done | rfl | (simp only [List.length_drop, List.length_take]; rfl)) ?_
                        with_reducible refine (cachepotref1_BatchFind.calls k1 _ _ ((rd_T43 l0 x9_1).f2) a1_0 t288 true t290 true _ ?side1 ?side2 A16.out).mono ?_
                        (case side1 => repeat (first | exact (Kd.C_below HR287_2.out HB.out) | (with_reducible refine Kd.C_alloc ?_ _) | (with_reducible refine Kd.C_drewN ?_ _) | (with_reducible refine Kd.C_drew ?_)))
                        (case side2 => exact HC287_2.out)
                        rintro e w22 ⟨rfl, hb⟩
                        refine ⟨_, rfl, ?_⟩
                        have n0_ := Aside0.mk (blk_below (g := gb284) (o := .cells #[.string a1_0, .bool false, .string a1_2, .int .u32 a1_3] 98 (0, 0)) (by (with_reducible repeat (first | refine blk_drewN ?_ _ | refine blk_drew ?_ | refine blk_alloc ?_ _)); exact BK284.out) hb)
                        have n1_ := Aside0.mk (blk_below (g := gb292) (o := .cells #[.string (⟨#[]⟩ : ByteArray), .bool false, .string (⟨#[]⟩ : ByteArray)] 101 (0, 0)) (by (with_reducible repeat (first | refine blk_drewN ?_ _ | refine blk_drew ?_ | refine blk_alloc ?_ _)); exact BK292.out) hb)
                        have n2_ := Aside0.mk (below_step (by repeat (first | (with_reducible first | exact HB.out | apply below_alloc | apply pw_below_drewN | apply below_drew1 | refine below_set ?_ GE284.out | refine below_set ?_ GE292.out) | exact HB.out)) hb)
                        clear BK284
                        clear BK292
                        clear HB
                        have BK284 := n0_
                        have BK292 := n1_
                        have HB := n2_
                        clear n0_ n1_ n2_
                        (try clear hb)
                        (try clear hb2)
                        (try clear hk)
                        (try clear hi)
                        refine hK.out _ _ ⟨(blk_cell BK284.out 0).trans rfl, (blk_cell BK284.out 1).trans rfl, (blk_cell BK284.out 2).trans rfl, (blk_cell BK284.out 3).trans rfl, ((HB.out.cell (World.block_lt_of_cell? w _ hw287_0)).trans hw287_0), ((HB.out.cell (World.block_lt_of_cell? w _ hw287_1)).trans hw287_1), ((HB.out.cell (World.block_lt_of_cell? w _ hw287_2)).trans hw287_2), ((HB.out.cell (World.block_lt_of_cell? w _ hw287_3)).trans hw287_3), ((HB.out.cell (World.block_lt_of_cell? w _ hw287_4)).trans hw287_4)⟩ (fun hHeld => ?_)
                        clear hK K
                        refine norm_ (a' := ?_) ?_ ?_
                        rotate_left
                        · show Act.put _ (some 42) _ = _
                          simp only [Act.put, List.setIfInBounds_toArray, List.set_cons_zero, List.set_cons_succ, i64_w, i32_w]
                          rfl
                        refine pure_ (i := 8) (N := some 34) (v := ?_) (a' := ?_) #[true, true, true, true, true, true, true, true, true, false, false, true, false, false] rfl rfl (any_of HT_.out (by kernel_rfl)) (fun _ _ _ h => h) (Or.inl ⟨by rfl, ?_⟩) ?_ ?_
                        rotate_left
                        · intro w'
                          go_simp
                          with_reducible rfl
                        rotate_left
                        · simp only [Act.put, List.setIfInBounds_toArray, List.set_cons_zero, List.set_cons_succ, i64_w, i32_w]
                          rfl
                        refine pure_ (i := 9) (N := some 43) (v := ?_) (a' := ?_) #[true, true, true, true, true, true, true, true, true, true, false, true, false, false] rfl rfl (any_of HT_.out (by kernel_rfl)) (fun _ _ _ h => h) (Or.inl ⟨by rfl, ?_⟩) ?_ ?_
                        rotate_left
                        · intro w'
                          go_simp
                          with_reducible rfl
                        rotate_left
                        · simp only [Act.put, List.setIfInBounds_toArray, List.set_cons_zero, List.set_cons_succ, i64_w, i32_w]
                          rfl
                        refine pure_ (i := 10) (N := some 44) (v := ?_) (a' := ?_) #[true, true, true, true, true, true, true, true, true, true, true, true, false, false] rfl rfl (any_of HT_.out (by kernel_rfl)) (fun _ _ _ h => h) (Or.inl ⟨by rfl, ?_⟩) ?_ ?_
                        rotate_left
                        · intro w'
                          go_simp
                          with_reducible rfl
                        rotate_left
                        · simp only [Act.put, List.setIfInBounds_toArray, List.set_cons_zero, List.set_cons_succ, i64_w, i32_w]
                          rfl
                        exact norm_ (by simp only [putAll, Act.put, List.setIfInBounds_toArray, List.set_cons_zero, List.set_cons_succ]) (hCont (gb292) _ ⟨hHeld, (by (with_reducible repeat (first | refine blk_drewN ?_ _ | refine blk_drew ?_ | refine blk_alloc ?_ _)); exact BK284.out), (by (with_reducible repeat (first | refine blk_drewN ?_ _ | refine blk_drew ?_ | refine blk_alloc ?_ _)); exact BK292.out), GW292.out, GE292.out, NB284_292.out, NB292_284.out, (by repeat (first | (with_reducible first | exact HB.out | apply below_alloc | apply pw_below_drewN | apply below_drew1 | refine below_set ?_ GE284.out | refine below_set ?_ GE292.out) | exact HB.out))⟩)
                    rintro gb292 w23 ⟨hS_, h0_, h1_, h2_, h3_, h4_, h5_, h6_⟩
                    have n0_ : Aside0 (w23.heap[gb284]? = some (.cells #[.string a1_0, .bool false, .string a1_2, .int .u32 a1_3] 98 (0, 0))) := ⟨h0_⟩
                    have n1_ : Aside0 (w23.heap[gb292]? = some (.cells #[.string (⟨#[]⟩ : ByteArray), .bool false, .string (⟨#[]⟩ : ByteArray)] 101 (0, 0))) := ⟨h1_⟩
                    have n2_ : Aside0 (w.heap.size ≤ gb292) := ⟨h2_⟩
                    have n3_ : Aside0 (w.heap.size ≤ gb292) := ⟨h3_⟩
                    have n4_ : Aside0 (gb284 ≠ gb292) := ⟨h4_⟩
                    have n5_ : Aside0 (gb292 ≠ gb284) := ⟨h5_⟩
                    have n6_ : Aside0 (Below w.heap.size w w23) := ⟨h6_⟩
                    clear BK284
                    clear HB
                    clear h0_ h1_ h2_ h3_ h4_ h5_ h6_
                    have BK284 := n0_
                    have BK292 := n1_
                    have GW292 := n2_
                    have GE292 := n3_
                    have NB284_292 := n4_
                    have NB292_284 := n5_
                    have HB := n6_
                    clear n0_ n1_ n2_ n3_ n4_ n5_ n6_
                    have hHeld : w23.cell? ⟨gb284, 0, none⟩ = some (.string a1_0) ∧ w23.cell? ⟨gb284, 1, none⟩ = some (.bool false) ∧ w23.cell? ⟨gb284, 2, none⟩ = some (.string a1_2) ∧ w23.cell? ⟨gb284, 3, none⟩ = some (.int .u32 a1_3) ∧ w23.cell? (ad285.add ((x9_1).toNat * 5)) = some (.int .i64 ((rd_T43 l0 x9_1).f0)) ∧ w23.cell? ⟨(ad285.add ((x9_1).toNat * 5)).block, (ad285.add ((x9_1).toNat * 5)).off + 1, none⟩ = some (.int .u32 ((rd_T43 l0 x9_1).f1)) ∧ w23.cell? ⟨(ad285.add ((x9_1).toNat * 5)).block, (ad285.add ((x9_1).toNat * 5)).off + 2, none⟩ = some (.slice A287_2 ((rd_T43 l0 x9_1).f2).length c287_2) ∧ w23.cell? ⟨(ad285.add ((x9_1).toNat * 5)).block, (ad285.add ((x9_1).toNat * 5)).off + 3, none⟩ = some (.slice A287_3 ((rd_T43 l0 x9_1).f3).length c287_3) ∧ w23.cell? ⟨(ad285.add ((x9_1).toNat * 5)).block, (ad285.add ((x9_1).toNat * 5)).off + 4, none⟩ = some (.slice A287_4 ((rd_T43 l0 x9_1).f4).length c287_4) := hS_
                    refine norm_ (a' := ?_) ?_ ?_
                    rotate_left
                    · simp only [putAll, Act.put, List.setIfInBounds_toArray, List.set_cons_zero, List.set_cons_succ]
                      rfl
                    refine one_ (i := 12) (N := none) #[true, true, true, true, true, true, true, true, true, true, true, true, true, false] rfl rfl (one_of HT_.out (by kernel_rfl)) (by decide) (fun K hK => ?_)
                    have hs24 : w23.cell? ⟨gb292, 0, none⟩ = some (.string (⟨#[]⟩ : ByteArray)) := (blk_cell BK292.out 0).trans rfl
                    have hfs24 := blk_frozen BK292.out 0
                    have hns24_0 := NB284_292.out
                    have hms24_0 := NB292_284.out
                    have hs25 : w23.cell? ⟨gb292, 1, none⟩ = some (.bool false) := (blk_cell BK292.out 1).trans rfl
                    have hfs25 := blk_frozen BK292.out 1
                    have hns25_0 := NB284_292.out
                    have hms25_0 := NB292_284.out
                    have hs26 : w23.cell? ⟨gb292, 2, none⟩ = some (.string (⟨#[]⟩ : ByteArray)) := (blk_cell BK292.out 2).trans rfl
                    have hfs26 := blk_frozen BK292.out 2
                    have hns26_0 := NB284_292.out
                    have hms26_0 := NB292_284.out
                    refine skip_ (w1 := ?_) (by rfl) rfl ?_ ?_
                    rotate_left
                    · go_simp
                      rfl
                    refine hK.out _ _ ⟨((cell_far (p := ⟨gb292, _, none⟩) NB284_292.out _).trans (((cell_far (p := ⟨gb292, _, none⟩) NB284_292.out _).trans (((cell_far (p := ⟨gb292, _, none⟩) NB284_292.out _).trans (hHeld.1)))))), ((cell_far (p := ⟨gb292, _, none⟩) NB284_292.out _).trans (((cell_far (p := ⟨gb292, _, none⟩) NB284_292.out _).trans (((cell_far (p := ⟨gb292, _, none⟩) NB284_292.out _).trans (hHeld.2.1)))))), ((cell_far (p := ⟨gb292, _, none⟩) NB284_292.out _).trans (((cell_far (p := ⟨gb292, _, none⟩) NB284_292.out _).trans (((cell_far (p := ⟨gb292, _, none⟩) NB284_292.out _).trans (hHeld.2.2.1)))))), ((cell_far (p := ⟨gb292, _, none⟩) NB284_292.out _).trans (((cell_far (p := ⟨gb292, _, none⟩) NB284_292.out _).trans (((cell_far (p := ⟨gb292, _, none⟩) NB284_292.out _).trans (hHeld.2.2.2.1)))))), ((cell_far (p := ⟨gb292, _, none⟩) (by first | exact Nat.ne_of_lt (Nat.lt_of_lt_of_le (by have := World.block_lt_of_cell? _ _ hw287_0; first | rwa [add_block] at this | exact this) GW292.out) | (rw [add_block]; exact Nat.ne_of_lt (Nat.lt_of_lt_of_le (by have := World.block_lt_of_cell? _ _ hw287_0; first | rwa [add_block] at this | exact this) GW292.out)) | (show (Addr.add _ _).block ≠ _; rw [add_block]; exact Nat.ne_of_lt (Nat.lt_of_lt_of_le (by have := World.block_lt_of_cell? _ _ hw287_0; first | rwa [add_block] at this | exact this) GW292.out)) | (dsimp only; exact Nat.ne_of_lt (Nat.lt_of_lt_of_le (by have := World.block_lt_of_cell? _ _ hw287_0; first | rwa [add_block] at this | exact this) GW292.out))) _).trans (((cell_far (p := ⟨gb292, _, none⟩) (by first | exact Nat.ne_of_lt (Nat.lt_of_lt_of_le (by have := World.block_lt_of_cell? _ _ hw287_0; first | rwa [add_block] at this | exact this) GW292.out) | (rw [add_block]; exact Nat.ne_of_lt (Nat.lt_of_lt_of_le (by have := World.block_lt_of_cell? _ _ hw287_0; first | rwa [add_block] at this | exact this) GW292.out)) | (show (Addr.add _ _).block ≠ _; rw [add_block]; exact Nat.ne_of_lt (Nat.lt_of_lt_of_le (by have := World.block_lt_of_cell? _ _ hw287_0; first | rwa [add_block] at this | exact this) GW292.out)) | (dsimp only; exact Nat.ne_of_lt (Nat.lt_of_lt_of_le (by have := World.block_lt_of_cell? _ _ hw287_0; first | rwa [add_block] at this | exact this) GW292.out))) _).trans (((cell_far (p := ⟨gb292, _, none⟩) (by first | exact Nat.ne_of_lt (Nat.lt_of_lt_of_le (by have := World.block_lt_of_cell? _ _ hw287_0; first | rwa [add_block] at this | exact this) GW292.out) | (rw [add_block]; exact Nat.ne_of_lt (Nat.lt_of_lt_of_le (by have := World.block_lt_of_cell? _ _ hw287_0; first | rwa [add_block] at this | exact this) GW292.out)) | (show (Addr.add _ _).block ≠ _; rw [add_block]; exact Nat.ne_of_lt (Nat.lt_of_lt_of_le (by have := World.block_lt_of_cell? _ _ hw287_0; first | rwa [add_block] at this | exact this) GW292.out)) | (dsimp only; exact Nat.ne_of_lt (Nat.lt_of_lt_of_le (by have := World.block_lt_of_cell? _ _ hw287_0; first | rwa [add_block] at this | exact this) GW292.out))) _).trans (hHeld.2.2.2.2.1)))))), ((cell_far (p := ⟨gb292, _, none⟩) (by first | exact Nat.ne_of_lt (Nat.lt_of_lt_of_le (by have := World.block_lt_of_cell? _ _ hw287_1; first | rwa [add_block] at this | exact this) GW292.out) | (rw [add_block]; exact Nat.ne_of_lt (Nat.lt_of_lt_of_le (by have := World.block_lt_of_cell? _ _ hw287_1; first | rwa [add_block] at this | exact this) GW292.out)) | (show (Addr.add _ _).block ≠ _; rw [add_block]; exact Nat.ne_of_lt (Nat.lt_of_lt_of_le (by have := World.block_lt_of_cell? _ _ hw287_1; first | rwa [add_block] at this | exact this) GW292.out)) | (dsimp only; exact Nat.ne_of_lt (Nat.lt_of_lt_of_le (by have := World.block_lt_of_cell? _ _ hw287_1; first | rwa [add_block] at this | exact this) GW292.out))) _).trans (((cell_far (p := ⟨gb292, _, none⟩) (by first | exact Nat.ne_of_lt (Nat.lt_of_lt_of_le (by have := World.block_lt_of_cell? _ _ hw287_1; first | rwa [add_block] at this | exact this) GW292.out) | (rw [add_block]; exact Nat.ne_of_lt (Nat.lt_of_lt_of_le (by have := World.block_lt_of_cell? _ _ hw287_1; first | rwa [add_block] at this | exact this) GW292.out)) | (show (Addr.add _ _).block ≠ _; rw [add_block]; exact Nat.ne_of_lt (Nat.lt_of_lt_of_le (by have := World.block_lt_of_cell? _ _ hw287_1; first | rwa [add_block] at this | exact this) GW292.out)) | (dsimp only; exact Nat.ne_of_lt (Nat.lt_of_lt_of_le (by have := World.block_lt_of_cell? _ _ hw287_1; first | rwa [add_block] at this | exact this) GW292.out))) _).trans (((cell_far (p := ⟨gb292, _, none⟩) (by first | exact Nat.ne_of_lt (Nat.lt_of_lt_of_le (by have := World.block_lt_of_cell? _ _ hw287_1; first | rwa [add_block] at this | exact this) GW292.out) | (rw [add_block]; exact Nat.ne_of_lt (Nat.lt_of_lt_of_le (by have := World.block_lt_of_cell? _ _ hw287_1; first | rwa [add_block] at this | exact this) GW292.out)) | (show (Addr.add _ _).block ≠ _; rw [add_block]; exact Nat.ne_of_lt (Nat.lt_of_lt_of_le (by have := World.block_lt_of_cell? _ _ hw287_1; first | rwa [add_block] at this | exact this) GW292.out)) | (dsimp only; exact Nat.ne_of_lt (Nat.lt_of_lt_of_le (by have := World.block_lt_of_cell? _ _ hw287_1; first | rwa [add_block] at this | exact this) GW292.out))) _).trans (hHeld.2.2.2.2.2.1)))))), ((cell_far (p := ⟨gb292, _, none⟩) (by first | exact Nat.ne_of_lt (Nat.lt_of_lt_of_le (by have := World.block_lt_of_cell? _ _ hw287_2; first | rwa [add_block] at this | exact this) GW292.out) | (rw [add_block]; exact Nat.ne_of_lt (Nat.lt_of_lt_of_le (by have := World.block_lt_of_cell? _ _ hw287_2; first | rwa [add_block] at this | exact this) GW292.out)) | (show (Addr.add _ _).block ≠ _; rw [add_block]; exact Nat.ne_of_lt (Nat.lt_of_lt_of_le (by have := World.block_lt_of_cell? _ _ hw287_2; first | rwa [add_block] at this | exact this) GW292.out)) | (dsimp only; exact Nat.ne_of_lt (Nat.lt_of_lt_of_le (by have := World.block_lt_of_cell? _ _ hw287_2; first | rwa [add_block] at this | exact this) GW292.out))) _).trans (((cell_far (p := ⟨gb292, _, none⟩) (by first | exact Nat.ne_of_lt (Nat.lt_of_lt_of_le (by have := World.block_lt_of_cell? _ _ hw287_2; first | rwa [add_block] at this | exact this) GW292.out) | (rw [add_block]; exact Nat.ne_of_lt (Nat.lt_of_lt_of_le (by have := World.block_lt_of_cell? _ _ hw287_2; first | rwa [add_block] at this | exact this) GW292.out)) | (show (Addr.add _ _).block ≠ _; rw [add_block]; exact Nat.ne_of_lt (Nat.lt_of_lt_of_le (by have := World.block_lt_of_cell? _ _ hw287_2; first | rwa [add_block] at this | exact this) GW292.out)) | (dsimp only; exact Nat.ne_of_lt (Nat.lt_of_lt_of_le (by have := World.block_lt_of_cell? _ _ hw287_2; first | rwa [add_block] at this | exact this) GW292.out))) _).trans (((cell_far (p := ⟨gb292, _, none⟩) (by first | exact Nat.ne_of_lt (Nat.lt_of_lt_of_le (by have := World.block_lt_of_cell? _ _ hw287_2; first | rwa [add_block] at this | exact this) GW292.out) | (rw [add_block]; exact Nat.ne_of_lt (Nat.lt_of_lt_of_le (by have := World.block_lt_of_cell? _ _ hw287_2; first | rwa [add_block] at this | exact this) GW292.out)) | (show (Addr.add _ _).block ≠ _; rw [add_block]; exact Nat.ne_of_lt (Nat.lt_of_lt_of_le (by have := World.block_lt_of_cell? _ _ hw287_2; first | rwa [add_block] at this | exact this) GW292.out)) | (dsimp only; exact Nat.ne_of_lt (Nat.lt_of_lt_of_le (by have := World.block_lt_of_cell? _ _ hw287_2; first | rwa [add_block] at this | exact this) GW292.out))) _).trans (hHeld.2.2.2.2.2.2.1)))))), ((cell_far (p := ⟨gb292, _, none⟩) (by first | exact Nat.ne_of_lt (Nat.lt_of_lt_of_le (by have := World.block_lt_of_cell? _ _ hw287_3; first | rwa [add_block] at this | exact this) GW292.out) | (rw [add_block]; exact Nat.ne_of_lt (Nat.lt_of_lt_of_le (by have := World.block_lt_of_cell? _ _ hw287_3; first | rwa [add_block] at this | exact this) GW292.out)) | (show (Addr.add _ _).block ≠ _; rw [add_block]; exact Nat.ne_of_lt (Nat.lt_of_lt_of_le (by have := World.block_lt_of_cell? _ _ hw287_3; first | rwa [add_block] at this | exact this) GW292.out)) | (dsimp only; exact Nat.ne_of_lt (Nat.lt_of_lt_of_le (by have := World.block_lt_of_cell? _ _ hw287_3; first | rwa [add_block] at this | exact this) GW292.out))) _).trans (((cell_far (p := ⟨gb292, _, none⟩) (by first | exact Nat.ne_of_lt (Nat.lt_of_lt_of_le (by have := World.block_lt_of_cell? _ _ hw287_3; first | rwa [add_block] at this | exact this) GW292.out) | (rw [add_block]; exact Nat.ne_of_lt (Nat.lt_of_lt_of_le (by have := World.block_lt_of_cell? _ _ hw287_3; first | rwa [add_block] at this | exact this) GW292.out)) | (show (Addr.add _ _).block ≠ _; rw [add_block]; exact Nat.ne_of_lt (Nat.lt_of_lt_of_le (by have := World.block_lt_of_cell? _ _ hw287_3; first | rwa [add_block] at this | exact this) GW292.out)) | (dsimp only; exact Nat.ne_of_lt (Nat.lt_of_lt_of_le (by have := World.block_lt_of_cell? _ _ hw287_3; first | rwa [add_block] at this | exact this) GW292.out))) _).trans (((cell_far (p := ⟨gb292, _, none⟩) (by first | exact Nat.ne_of_lt (Nat.lt_of_lt_of_le (by have := World.block_lt_of_cell? _ _ hw287_3; first | rwa [add_block] at this | exact this) GW292.out) | (rw [add_block]; exact Nat.ne_of_lt (Nat.lt_of_lt_of_le (by have := World.block_lt_of_cell? _ _ hw287_3; first | rwa [add_block] at this | exact this) GW292.out)) | (show (Addr.add _ _).block ≠ _; rw [add_block]; exact Nat.ne_of_lt (Nat.lt_of_lt_of_le (by have := World.block_lt_of_cell? _ _ hw287_3; first | rwa [add_block] at this | exact this) GW292.out)) | (dsimp only; exact Nat.ne_of_lt (Nat.lt_of_lt_of_le (by have := World.block_lt_of_cell? _ _ hw287_3; first | rwa [add_block] at this | exact this) GW292.out))) _).trans (hHeld.2.2.2.2.2.2.2.1)))))), ((cell_far (p := ⟨gb292, _, none⟩) (by first | exact Nat.ne_of_lt (Nat.lt_of_lt_of_le (by have := World.block_lt_of_cell? _ _ hw287_4; first | rwa [add_block] at this | exact this) GW292.out) | (rw [add_block]; exact Nat.ne_of_lt (Nat.lt_of_lt_of_le (by have := World.block_lt_of_cell? _ _ hw287_4; first | rwa [add_block] at this | exact this) GW292.out)) | (show (Addr.add _ _).block ≠ _; rw [add_block]; exact Nat.ne_of_lt (Nat.lt_of_lt_of_le (by have := World.block_lt_of_cell? _ _ hw287_4; first | rwa [add_block] at this | exact this) GW292.out)) | (dsimp only; exact Nat.ne_of_lt (Nat.lt_of_lt_of_le (by have := World.block_lt_of_cell? _ _ hw287_4; first | rwa [add_block] at this | exact this) GW292.out))) _).trans (((cell_far (p := ⟨gb292, _, none⟩) (by first | exact Nat.ne_of_lt (Nat.lt_of_lt_of_le (by have := World.block_lt_of_cell? _ _ hw287_4; first | rwa [add_block] at this | exact this) GW292.out) | (rw [add_block]; exact Nat.ne_of_lt (Nat.lt_of_lt_of_le (by have := World.block_lt_of_cell? _ _ hw287_4; first | rwa [add_block] at this | exact this) GW292.out)) | (show (Addr.add _ _).block ≠ _; rw [add_block]; exact Nat.ne_of_lt (Nat.lt_of_lt_of_le (by have := World.block_lt_of_cell? _ _ hw287_4; first | rwa [add_block] at this | exact this) GW292.out)) | (dsimp only; exact Nat.ne_of_lt (Nat.lt_of_lt_of_le (by have := World.block_lt_of_cell? _ _ hw287_4; first | rwa [add_block] at this | exact this) GW292.out))) _).trans (((cell_far (p := ⟨gb292, _, none⟩) (by first | exact Nat.ne_of_lt (Nat.lt_of_lt_of_le (by have := World.block_lt_of_cell? _ _ hw287_4; first | rwa [add_block] at this | exact this) GW292.out) | (rw [add_block]; exact Nat.ne_of_lt (Nat.lt_of_lt_of_le (by have := World.block_lt_of_cell? _ _ hw287_4; first | rwa [add_block] at this | exact this) GW292.out)) | (show (Addr.add _ _).block ≠ _; rw [add_block]; exact Nat.ne_of_lt (Nat.lt_of_lt_of_le (by have := World.block_lt_of_cell? _ _ hw287_4; first | rwa [add_block] at this | exact this) GW292.out)) | (dsimp only; exact Nat.ne_of_lt (Nat.lt_of_lt_of_le (by have := World.block_lt_of_cell? _ _ hw287_4; first | rwa [add_block] at this | exact this) GW292.out))) _).trans (hHeld.2.2.2.2.2.2.2.2))))))⟩ (fun hHeld => ?_)
                    clear hK K
                    refine pure_ (i := 13) (N := some 11) (v := ?_) (a' := ?_) #[true, true, true, true, true, true, true, true, true, true, true, true, true, true] rfl rfl (any_of HT_.out (by kernel_rfl)) (fun _ _ _ h => h) (Or.inl ⟨by rfl, ?_⟩) ?_ ?_
                    rotate_left
                    · intro w'
                      go_simp
                      with_reducible rfl
                    rotate_left
                    · simp only [Act.put, List.setIfInBounds_toArray, List.set_cons_zero, List.set_cons_succ, i64_w, i32_w]
                      rfl
                    refine done_ (done_of HT_.out (by kernel_rfl)) ?_
                    have hnb27 := NB292_284.out
                    have hnc27 := NB284_292.out
                    have hcz28_0 : w23.cell? ⟨gb292, 0, none⟩ = some (.string (⟨#[]⟩ : ByteArray)) := (blk_cell BK292.out 0).trans rfl
                    have hcz28_1 : w23.cell? ⟨gb292, 1, none⟩ = some (.bool false) := (blk_cell BK292.out 1).trans rfl
                    have hcz28_2 : w23.cell? ⟨gb292, 2, none⟩ = some (.string (⟨#[]⟩ : ByteArray)) := (blk_cell BK292.out 2).trans rfl
                    have hfz28_0 := blk_frozen BK292.out 0
                    have hfz28_1 := blk_frozen BK292.out 1
                    have hfz28_2 := blk_frozen BK292.out 2
                    try go_wp2
                    go_ret
                    exact ⟨by first | rfl | (simp [errW_none, errW_some] <;> rfl) | (simp [*, errW_none, errW_some] <;> rfl), by repeat (first | (with_reducible first | exact HB.out | apply below_alloc | apply pw_below_drewN | apply below_drew1 | refine below_set ?_ GE284.out | refine below_set ?_ GE292.out) | exact HB.out)⟩
                  · replace c18 := Bool.eq_false_iff.mpr c18
                    subst c18
                    have H1 : (cachepotref3_later.l0 k1 l0 a3 (wrap64 (x9_1 + 1)) a1_0 false a1_2 a1_3) = some r := by rw [if_neg (show ¬ (false = true) by decide)] at H; exact H
                    clear H
                    have H := H1
                    clear H1
                    have H' := Aside0.mk H
                    clear H
                    have p285 : 0 ≤ (x9_1 : Int) := of_decide_eq_true (by first | (with_reducible assumption) | assumption)
                    have q285 : x9_1 < (l0.length : Int) := of_decide_eq_true (by first | (with_reducible assumption) | assumption)
                    obtain ⟨ad285, A285_2, c285_2, A285_3, c285_3, A285_4, c285_4, e285, hx285_0, hx285_1, hx285_2, hx285_3, hx285_4, hl285_2, hi285_2, hl285_3, hi285_3, hl285_4, hi285_4⟩ := at_T43 HR0.out x9_1 p285 q285
                    cases e285
                    replace hx285_0 := (HB.out.cell (World.block_lt_of_cell? w _ hx285_0)).trans hx285_0
                    replace hx285_1 := (HB.out.cell (World.block_lt_of_cell? w _ hx285_1)).trans hx285_1
                    replace hx285_2 := (HB.out.cell (World.block_lt_of_cell? w _ hx285_2)).trans hx285_2
                    replace hx285_3 := (HB.out.cell (World.block_lt_of_cell? w _ hx285_3)).trans hx285_3
                    replace hx285_4 := (HB.out.cell (World.block_lt_of_cell? w _ hx285_4)).trans hx285_4
                    have HR285_2 := Aside0.mk hi285_2
                    have HC285_2 := Aside0.mk hl285_2
                    clear hi285_2 hl285_2
                    have HR285_3 := Aside0.mk hi285_3
                    have HC285_3 := Aside0.mk hl285_3
                    clear hi285_3 hl285_3
                    have HR285_4 := Aside0.mk hi285_4
                    have HC285_4 := Aside0.mk hl285_4
                    clear hi285_4 hl285_4
                    replace p285 := eq_true p285
                    replace q285 := eq_true q285
                    have hcz29_0 : wr.cell? ⟨gb284, 0, none⟩ = some (.string a1_0) := (blk_cell BK284.out 0).trans rfl
                    have hcz29_1 : wr.cell? ⟨gb284, 1, none⟩ = some (.bool false) := (blk_cell BK284.out 1).trans rfl
                    have hcz29_2 : wr.cell? ⟨gb284, 2, none⟩ = some (.string a1_2) := (blk_cell BK284.out 2).trans rfl
                    have hcz29_3 : wr.cell? ⟨gb284, 3, none⟩ = some (.int .u32 a1_3) := (blk_cell BK284.out 3).trans rfl
                    have hfz29_0 := blk_frozen BK284.out 0
                    have hfz29_1 := blk_frozen BK284.out 1
                    have hfz29_2 := blk_frozen BK284.out 2
                    have hfz29_3 := blk_frozen BK284.out 3
                    try go_wp2
                    have n0_ := Aside0.mk (blk_drew BK284.out)
                    have n1_ := Aside0.mk (below_drew1 HB.out)
                    clear BK284
                    clear HB
                    have BK284 := n0_
                    have HB := n1_
                    clear n0_ n1_
                    have p287 : 0 ≤ (x9_1 : Int) := of_decide_eq_true (by first | (with_reducible assumption) | assumption)
                    have q287 : x9_1 < (l0.length : Int) := of_decide_eq_true (by first | (with_reducible assumption) | assumption)
                    obtain ⟨ad287, A287_2, c287_2, A287_3, c287_3, A287_4, c287_4, e287, hx287_0, hx287_1, hx287_2, hx287_3, hx287_4, hl287_2, hi287_2, hl287_3, hi287_3, hl287_4, hi287_4⟩ := at_T43 HR0.out x9_1 p287 q287
                    have hw287_4 := hx287_4
                    have hw287_3 := hx287_3
                    have hw287_2 := hx287_2
                    have hw287_1 := hx287_1
                    have hw287_0 := hx287_0
                    obtain rfl : ad285 = ad287 := (by injection e287)
                    replace hx287_0 := (HB.out.cell (World.block_lt_of_cell? w _ hx287_0)).trans hx287_0
                    replace hx287_1 := (HB.out.cell (World.block_lt_of_cell? w _ hx287_1)).trans hx287_1
                    replace hx287_2 := (HB.out.cell (World.block_lt_of_cell? w _ hx287_2)).trans hx287_2
                    replace hx287_3 := (HB.out.cell (World.block_lt_of_cell? w _ hx287_3)).trans hx287_3
                    replace hx287_4 := (HB.out.cell (World.block_lt_of_cell? w _ hx287_4)).trans hx287_4
                    have HR287_2 := Aside0.mk hi287_2
                    have HC287_2 := Aside0.mk hl287_2
                    clear hi287_2 hl287_2
                    have HR287_3 := Aside0.mk hi287_3
                    have HC287_3 := Aside0.mk hl287_3
                    clear hi287_3 hl287_3
                    have HR287_4 := Aside0.mk hi287_4
                    have HC287_4 := Aside0.mk hl287_4
                    clear hi287_4 hl287_4
                    replace p287 := eq_true p287
                    replace q287 := eq_true q287
                    refine start_ (n := 14) (S := fun w' => w'.cell? ⟨gb284, 0, none⟩ = some (.string a1_0) ∧ w'.cell? ⟨gb284, 1, none⟩ = some (.bool false) ∧ w'.cell? ⟨gb284, 2, none⟩ = some (.string a1_2) ∧ w'.cell? ⟨gb284, 3, none⟩ = some (.int .u32 a1_3) ∧ w'.cell? (ad285.add ((x9_1).toNat * 5)) = some (.int .i64 ((rd_T43 l0 x9_1).f0)) ∧ w'.cell? ⟨(ad285.add ((x9_1).toNat * 5)).block, (ad285.add ((x9_1).toNat * 5)).off + 1, none⟩ = some (.int .u32 ((rd_T43 l0 x9_1).f1)) ∧ w'.cell? ⟨(ad285.add ((x9_1).toNat * 5)).block, (ad285.add ((x9_1).toNat * 5)).off + 2, none⟩ = some (.slice A287_2 ((rd_T43 l0 x9_1).f2).length c287_2) ∧ w'.cell? ⟨(ad285.add ((x9_1).toNat * 5)).block, (ad285.add ((x9_1).toNat * 5)).off + 3, none⟩ = some (.slice A287_3 ((rd_T43 l0 x9_1).f3).length c287_3) ∧ w'.cell? ⟨(ad285.add ((x9_1).toNat * 5)).block, (ad285.add ((x9_1).toNat * 5)).off + 4, none⟩ = some (.slice A287_4 ((rd_T43 l0 x9_1).f4).length c287_4)) (ds := []) #[false, false, false, false, false, false, false, false, false, false, false, false, false, false] (by kernel_rfl) rfl rfl ⟨(blk_cell BK284.out 0).trans rfl, (blk_cell BK284.out 1).trans rfl, (blk_cell BK284.out 2).trans rfl, (blk_cell BK284.out 3).trans rfl, ((HB.out.cell (World.block_lt_of_cell? w _ hw287_0)).trans hw287_0), ((HB.out.cell (World.block_lt_of_cell? w _ hw287_1)).trans hw287_1), ((HB.out.cell (World.block_lt_of_cell? w _ hw287_2)).trans hw287_2), ((HB.out.cell (World.block_lt_of_cell? w _ hw287_3)).trans hw287_3), ((HB.out.cell (World.block_lt_of_cell? w _ hw287_4)).trans hw287_4)⟩ (fun hHeld => ?_); refine with_tabW cachepotref3_later.tab8 cachepotref3_later.bits8 (fun HT_ HW_ => ?_)
                    generalize wr.drew = w30 at BK284 HB HR287_2 HR287_3 HR287_4 hx287_0 hx287_1 hx287_2 hx287_3 hx287_4 hHeld ⊢
                    refine pure_ (i := 0) (N := some 35) (v := ?_) (a' := ?_) #[true, false, false, false, false, false, false, false, false, false, false, false, false, false] rfl rfl (any_of HT_.out (by kernel_rfl)) (fun _ _ _ h => h) (Or.inl ⟨by rfl, ?_⟩) ?_ ?_
                    rotate_left
                    · intro w'
                      go_simp
                      with_reducible rfl
                    rotate_left
                    · simp only [Act.put, List.setIfInBounds_toArray, List.set_cons_zero, List.set_cons_succ, i64_w, i32_w]
                      rfl
                    refine pure_ (i := 1) (N := some 36) (v := ?_) (a' := ?_) #[true, true, false, false, false, false, false, false, false, false, false, false, false, false] rfl rfl (any_of HT_.out (by kernel_rfl)) (fun _ _ _ h => h) (Or.inl ⟨by rfl, ?_⟩) ?_ ?_
                    rotate_left
                    · intro w'
                      go_simp
                      with_reducible rfl
                    rotate_left
                    · simp only [Act.put, List.setIfInBounds_toArray, List.set_cons_zero, List.set_cons_succ, i64_w, i32_w]
                      rfl
                    refine pure_ (i := 2) (N := some 37) (v := ?_) (a' := ?_) #[true, true, true, false, false, false, false, false, false, false, false, false, false, false] rfl rfl (any_of HT_.out (by kernel_rfl)) (fun _ _ _ h => h) (Or.inl ⟨by rfl, ?_⟩) ?_ ?_
                    rotate_left
                    · intro w'
                      go_simp
                      with_reducible rfl
                    rotate_left
                    · simp only [Act.put, List.setIfInBounds_toArray, List.set_cons_zero, List.set_cons_succ, i64_w, i32_w]
                      rfl
                    refine pure_ (i := 3) (N := some 38) (v := ?_) (a' := ?_) #[true, true, true, true, false, false, false, false, false, false, false, false, false, false] rfl rfl (any_of HT_.out (by kernel_rfl)) (fun _ _ _ h => h) (Or.inl ⟨by rfl, ?_⟩) ?_ ?_
                    rotate_left
                    · intro w'
                      go_simp
                      with_reducible rfl
                    rotate_left
                    · simp only [Act.put, List.setIfInBounds_toArray, List.set_cons_zero, List.set_cons_succ, i64_w, i32_w]
                      rfl
                    refine pure_ (i := 5) (N := some 40) (v := ?_) (a' := ?_) #[true, true, true, true, false, true, false, false, false, false, false, false, false, false] rfl rfl (any_of HT_.out (by kernel_rfl)) (fun _ _ _ h => h) (Or.inl ⟨by rfl, ?_⟩) ?_ ?_
                    rotate_left
                    · intro w'
                      go_simp
                      with_reducible rfl
                    rotate_left
                    · simp only [Act.put, List.setIfInBounds_toArray, List.set_cons_zero, List.set_cons_succ, i64_w, i32_w]
                      rfl
                    refine take_ (i := 4) (N := some 39) (v := ?_) (a' := ?_) #[true, true, true, true, true, true, false, false, false, false, false, false, false, false] rfl rfl (take_ofW HT_.out HW_.out (by kernel_rfl)) (fun _ _ _ h => h) (Or.inl ⟨by rfl, ?_⟩) hHeld ?_ ?_
                    rotate_left
                    · rintro w' ⟨s0, s1, s2, s3, s4, s5, s6, s7, s8⟩
                      go_simp
                      with_reducible rfl
                    rotate_left
                    · simp only [Act.put, List.setIfInBounds_toArray, List.set_cons_zero, List.set_cons_succ, i64_w, i32_w]
                      rfl
                    refine take_ (i := 6) (N := some 41) (v := ?_) (a' := ?_) #[true, true, true, true, true, true, true, false, false, false, false, false, false, false] rfl rfl (take_ofW HT_.out HW_.out (by kernel_rfl)) (fun _ _ _ h => h) (Or.inl ⟨by rfl, ?_⟩) hHeld ?_ ?_
                    rotate_left
                    · rintro w' ⟨s0, s1, s2, s3, s4, s5, s6, s7, s8⟩
                      go_simp
                      with_reducible rfl
                    rotate_left
                    · simp only [Act.put, List.setIfInBounds_toArray, List.set_cons_zero, List.set_cons_succ, i64_w, i32_w]
                      rfl
                    refine join_ (σ := Nat) 2 #[true, true, true, true, true, true, true, true, true, true, true, true, false, false] (fun s_ => [(42, .tuple #[.agg #[.string t288, .bool false, .string t290], .bool true]), (10, .pointer (some ⟨s_, 0, none⟩)), (34, .tuple #[.agg #[.string t288, .bool false, .string t290], .bool true]), (43, .agg #[.string t288, .bool false, .string t290]), (44, .bool true)]) (fun s_ w' => (w'.cell? ⟨gb284, 0, none⟩ = some (.string a1_0) ∧ w'.cell? ⟨gb284, 1, none⟩ = some (.bool false) ∧ w'.cell? ⟨gb284, 2, none⟩ = some (.string a1_2) ∧ w'.cell? ⟨gb284, 3, none⟩ = some (.int .u32 a1_3) ∧ w'.cell? (ad285.add ((x9_1).toNat * 5)) = some (.int .i64 ((rd_T43 l0 x9_1).f0)) ∧ w'.cell? ⟨(ad285.add ((x9_1).toNat * 5)).block, (ad285.add ((x9_1).toNat * 5)).off + 1, none⟩ = some (.int .u32 ((rd_T43 l0 x9_1).f1)) ∧ w'.cell? ⟨(ad285.add ((x9_1).toNat * 5)).block, (ad285.add ((x9_1).toNat * 5)).off + 2, none⟩ = some (.slice A287_2 ((rd_T43 l0 x9_1).f2).length c287_2) ∧ w'.cell? ⟨(ad285.add ((x9_1).toNat * 5)).block, (ad285.add ((x9_1).toNat * 5)).off + 3, none⟩ = some (.slice A287_3 ((rd_T43 l0 x9_1).f3).length c287_3) ∧ w'.cell? ⟨(ad285.add ((x9_1).toNat * 5)).block, (ad285.add ((x9_1).toNat * 5)).off + 4, none⟩ = some (.slice A287_4 ((rd_T43 l0 x9_1).f4).length c287_4)) ∧ (w'.heap[gb284]? = some (.cells #[.string a1_0, .bool false, .string a1_2, .int .u32 a1_3] 98 (0, 0))) ∧ (w'.heap[s_]? = some (.cells #[.string (⟨#[]⟩ : ByteArray), .bool false, .string (⟨#[]⟩ : ByteArray)] 101 (0, 0))) ∧ (w.heap.size ≤ s_) ∧ (w.heap.size ≤ s_) ∧ (gb284 ≠ s_) ∧ (s_ ≠ gb284) ∧ (Below w.heap.size w w')) ?_ ?_
                    rotate_left
                    · intro hCont
                      refine two_ (i := 7) (j := 11) (Ni := some 42) (Nj := some 10) #[true, true, true, true, true, true, true, true, false, false, false, false, false, false] #[true, true, true, true, true, true, true, false, false, false, false, true, false, false] rfl rfl rfl rfl (two_of HT_.out (by kernel_rfl)) (by decide) (by decide) (fun K hK => ?_) (fun K hK => ?_)
                      · skip
                        refine goes_ Tryd.func107 (by kernel_rfl) rfl #[.slice A287_2 ((rd_T43 l0 x9_1).f2).length c287_2, .string a1_0] (by rfl) rfl rfl (by (try simp only [List.map_toArray, List.map_cons, List.map_nil]); first | done | rfl | (simp only [List.length_drop, List.length_take]; rfl)) ?_
                        with_reducible refine (cachepotref1_BatchFind.calls k1 _ _ ((rd_T43 l0 x9_1).f2) a1_0 t288 false t290 true _ ?side1 ?side2 A16.out).mono ?_
                        (case side1 => repeat (first | exact (Kd.C_below HR287_2.out HB.out) | (with_reducible refine Kd.C_alloc ?_ _) | (with_reducible refine Kd.C_drewN ?_ _) | (with_reducible refine Kd.C_drew ?_)))
                        (case side2 => exact HC287_2.out)
                        rintro e w31 ⟨rfl, hb⟩
                        refine ⟨_, rfl, ?_⟩
                        have n0_ := Aside0.mk (blk_below (g := gb284) (o := .cells #[.string a1_0, .bool false, .string a1_2, .int .u32 a1_3] 98 (0, 0)) (by (with_reducible repeat (first | refine blk_drewN ?_ _ | refine blk_drew ?_ | refine blk_alloc ?_ _)); exact BK284.out) hb)
                        have n1_ := Aside0.mk (below_step (by repeat (first | (with_reducible first | exact HB.out | apply below_alloc | apply pw_below_drewN | apply below_drew1 | refine below_set ?_ GE284.out) | exact HB.out)) hb)
                        clear BK284
                        clear HB
                        have BK284 := n0_
                        have HB := n1_
                        clear n0_ n1_
                        (try clear hb)
                        (try clear hb2)
                        (try clear hk)
                        (try clear hi)
                        refine hK.out _ _ ⟨(blk_cell BK284.out 0).trans rfl, (blk_cell BK284.out 1).trans rfl, (blk_cell BK284.out 2).trans rfl, (blk_cell BK284.out 3).trans rfl, ((HB.out.cell (World.block_lt_of_cell? w _ hw287_0)).trans hw287_0), ((HB.out.cell (World.block_lt_of_cell? w _ hw287_1)).trans hw287_1), ((HB.out.cell (World.block_lt_of_cell? w _ hw287_2)).trans hw287_2), ((HB.out.cell (World.block_lt_of_cell? w _ hw287_3)).trans hw287_3), ((HB.out.cell (World.block_lt_of_cell? w _ hw287_4)).trans hw287_4)⟩ (fun hHeld => ?_)
                        clear hK K
                        refine norm_ (a' := ?_) ?_ ?_
                        rotate_left
                        · show Act.put _ (some 42) _ = _
                          simp only [Act.put, List.setIfInBounds_toArray, List.set_cons_zero, List.set_cons_succ, i64_w, i32_w]
                          rfl
                        refine pure_ (i := 8) (N := some 34) (v := ?_) (a' := ?_) #[true, true, true, true, true, true, true, true, true, false, false, false, false, false] rfl rfl (any_of HT_.out (by kernel_rfl)) (fun _ _ _ h => h) (Or.inl ⟨by rfl, ?_⟩) ?_ ?_
                        rotate_left
                        · intro w'
                          go_simp
                          with_reducible rfl
                        rotate_left
                        · simp only [Act.put, List.setIfInBounds_toArray, List.set_cons_zero, List.set_cons_succ, i64_w, i32_w]
                          rfl
                        refine pure_ (i := 9) (N := some 43) (v := ?_) (a' := ?_) #[true, true, true, true, true, true, true, true, true, true, false, false, false, false] rfl rfl (any_of HT_.out (by kernel_rfl)) (fun _ _ _ h => h) (Or.inl ⟨by rfl, ?_⟩) ?_ ?_
                        rotate_left
                        · intro w'
                          go_simp
                          with_reducible rfl
                        rotate_left
                        · simp only [Act.put, List.setIfInBounds_toArray, List.set_cons_zero, List.set_cons_succ, i64_w, i32_w]
                          rfl
                        refine pure_ (i := 10) (N := some 44) (v := ?_) (a' := ?_) #[true, true, true, true, true, true, true, true, true, true, true, false, false, false] rfl rfl (any_of HT_.out (by kernel_rfl)) (fun _ _ _ h => h) (Or.inl ⟨by rfl, ?_⟩) ?_ ?_
                        rotate_left
                        · intro w'
                          go_simp
                          with_reducible rfl
                        rotate_left
                        · simp only [Act.put, List.setIfInBounds_toArray, List.set_cons_zero, List.set_cons_succ, i64_w, i32_w]
                          rfl
                        refine one_ (i := 11) (N := some 10) #[true, true, true, true, true, true, true, true, true, true, true, true, false, false] rfl rfl (one_of HT_.out (by kernel_rfl)) (by decide) (fun K hK => ?_)
                        refine box_step ?hg (N := 10) ?hd (cs := #[.string (⟨#[]⟩ : ByteArray), .bool false, .string (⟨#[]⟩ : ByteArray)]) (t := 101) ?hr ?_; (case hd => rfl); (case hg => rfl); (case hr => first | (go_simp; done) | (go_simp; rfl))
                        intro gb292 hg w32 hbox hb
                        have n0_ := Aside0.mk (blk_below (g := gb284) (o := .cells #[.string a1_0, .bool false, .string a1_2, .int .u32 a1_3] 98 (0, 0)) (by (with_reducible repeat (first | refine blk_drewN ?_ _ | refine blk_drew ?_ | refine blk_alloc ?_ _)); exact BK284.out) hb)
                        have n1_ := Aside0.mk (below_step (by repeat (first | (with_reducible first | exact HB.out | apply below_alloc | apply pw_below_drewN | apply below_drew1 | refine below_set ?_ GE284.out) | exact HB.out)) hb)
                        have n2_ := Aside0.mk (hbox)
                        have n3_ := Aside0.mk ((by rw [hg]; exact (below_size (by repeat (first | (with_reducible first | exact HB.out | apply below_alloc | apply pw_below_drewN | apply below_drew1 | refine below_set ?_ GE284.out) | exact HB.out))) : w.heap.size ≤ gb292))
                        have n4_ := Aside0.mk ((by rw [hg]; exact (below_size (by repeat (first | (with_reducible first | exact HB.out | apply below_alloc | apply pw_below_drewN | apply below_drew1 | refine below_set ?_ GE284.out) | exact HB.out))) : w.heap.size ≤ gb292))
                        have n5_ := Aside0.mk ((by rw [hg]; exact Nat.ne_of_lt (blk_lt (g := gb284) (o := .cells #[.string a1_0, .bool false, .string a1_2, .int .u32 a1_3] 98 (0, 0)) (by (with_reducible repeat (first | refine blk_drewN ?_ _ | refine blk_drew ?_ | refine blk_alloc ?_ _)); exact BK284.out)) : gb284 ≠ gb292))
                        have n6_ := Aside0.mk ((by rw [hg]; exact Nat.ne_of_gt (blk_lt (g := gb284) (o := .cells #[.string a1_0, .bool false, .string a1_2, .int .u32 a1_3] 98 (0, 0)) (by (with_reducible repeat (first | refine blk_drewN ?_ _ | refine blk_drew ?_ | refine blk_alloc ?_ _)); exact BK284.out)) : gb292 ≠ gb284))
                        clear BK284
                        clear HB
                        have BK284 := n0_
                        have HB := n1_
                        have BK292 := n2_
                        have GW292 := n3_
                        have GE292 := n4_
                        have NB284_292 := n5_
                        have NB292_284 := n6_
                        clear n0_ n1_ n2_ n3_ n4_ n5_ n6_
                        clear hb hbox hg
                        refine hK.out _ _ ⟨(blk_cell BK284.out 0).trans rfl, (blk_cell BK284.out 1).trans rfl, (blk_cell BK284.out 2).trans rfl, (blk_cell BK284.out 3).trans rfl, ((HB.out.cell (World.block_lt_of_cell? w _ hw287_0)).trans hw287_0), ((HB.out.cell (World.block_lt_of_cell? w _ hw287_1)).trans hw287_1), ((HB.out.cell (World.block_lt_of_cell? w _ hw287_2)).trans hw287_2), ((HB.out.cell (World.block_lt_of_cell? w _ hw287_3)).trans hw287_3), ((HB.out.cell (World.block_lt_of_cell? w _ hw287_4)).trans hw287_4)⟩ (fun hHeld => ?_)
                        clear hK K
                        refine norm_ (a' := ?_) ?_ ?_
                        rotate_left
                        · show Act.put _ (some 10) _ = _
                          simp only [Act.put, List.setIfInBounds_toArray, List.set_cons_zero, List.set_cons_succ, i64_w, i32_w]
                          rfl
                        exact norm_ (by simp only [putAll, Act.put, List.setIfInBounds_toArray, List.set_cons_zero, List.set_cons_succ]) (hCont (gb292) _ ⟨hHeld, (by (with_reducible repeat (first | refine blk_drewN ?_ _ | refine blk_drew ?_ | refine blk_alloc ?_ _)); exact BK284.out), (by (with_reducible repeat (first | refine blk_drewN ?_ _ | refine blk_drew ?_ | refine blk_alloc ?_ _)); exact BK292.out), GW292.out, GE292.out, NB284_292.out, NB292_284.out, (by repeat (first | (with_reducible first | exact HB.out | apply below_alloc | apply pw_below_drewN | apply below_drew1 | refine below_set ?_ GE284.out | refine below_set ?_ GE292.out) | exact HB.out))⟩)
                      · skip
                        refine box_step ?hg (N := 10) ?hd (cs := #[.string (⟨#[]⟩ : ByteArray), .bool false, .string (⟨#[]⟩ : ByteArray)]) (t := 101) ?hr ?_; (case hd => rfl); (case hg => rfl); (case hr => first | (go_simp; done) | (go_simp; rfl))
                        intro gb292 hg w31 hbox hb
                        have n0_ := Aside0.mk (blk_below (g := gb284) (o := .cells #[.string a1_0, .bool false, .string a1_2, .int .u32 a1_3] 98 (0, 0)) (by (with_reducible repeat (first | refine blk_drewN ?_ _ | refine blk_drew ?_ | refine blk_alloc ?_ _)); exact BK284.out) hb)
                        have n1_ := Aside0.mk (below_step (by repeat (first | (with_reducible first | exact HB.out | apply below_alloc | apply pw_below_drewN | apply below_drew1 | refine below_set ?_ GE284.out) | exact HB.out)) hb)
                        have n2_ := Aside0.mk (hbox)
                        have n3_ := Aside0.mk ((by rw [hg]; exact (below_size (by repeat (first | (with_reducible first | exact HB.out | apply below_alloc | apply pw_below_drewN | apply below_drew1 | refine below_set ?_ GE284.out) | exact HB.out))) : w.heap.size ≤ gb292))
                        have n4_ := Aside0.mk ((by rw [hg]; exact (below_size (by repeat (first | (with_reducible first | exact HB.out | apply below_alloc | apply pw_below_drewN | apply below_drew1 | refine below_set ?_ GE284.out) | exact HB.out))) : w.heap.size ≤ gb292))
                        have n5_ := Aside0.mk ((by rw [hg]; exact Nat.ne_of_lt (blk_lt (g := gb284) (o := .cells #[.string a1_0, .bool false, .string a1_2, .int .u32 a1_3] 98 (0, 0)) (by (with_reducible repeat (first | refine blk_drewN ?_ _ | refine blk_drew ?_ | refine blk_alloc ?_ _)); exact BK284.out)) : gb284 ≠ gb292))
                        have n6_ := Aside0.mk ((by rw [hg]; exact Nat.ne_of_gt (blk_lt (g := gb284) (o := .cells #[.string a1_0, .bool false, .string a1_2, .int .u32 a1_3] 98 (0, 0)) (by (with_reducible repeat (first | refine blk_drewN ?_ _ | refine blk_drew ?_ | refine blk_alloc ?_ _)); exact BK284.out)) : gb292 ≠ gb284))
                        clear BK284
                        clear HB
                        have BK284 := n0_
                        have HB := n1_
                        have BK292 := n2_
                        have GW292 := n3_
                        have GE292 := n4_
                        have NB284_292 := n5_
                        have NB292_284 := n6_
                        clear n0_ n1_ n2_ n3_ n4_ n5_ n6_
                        clear hb hbox hg
                        refine hK.out _ _ ⟨(blk_cell BK284.out 0).trans rfl, (blk_cell BK284.out 1).trans rfl, (blk_cell BK284.out 2).trans rfl, (blk_cell BK284.out 3).trans rfl, ((HB.out.cell (World.block_lt_of_cell? w _ hw287_0)).trans hw287_0), ((HB.out.cell (World.block_lt_of_cell? w _ hw287_1)).trans hw287_1), ((HB.out.cell (World.block_lt_of_cell? w _ hw287_2)).trans hw287_2), ((HB.out.cell (World.block_lt_of_cell? w _ hw287_3)).trans hw287_3), ((HB.out.cell (World.block_lt_of_cell? w _ hw287_4)).trans hw287_4)⟩ (fun hHeld => ?_)
                        clear hK K
                        refine norm_ (a' := ?_) ?_ ?_
                        rotate_left
                        · show Act.put _ (some 10) _ = _
                          simp only [Act.put, List.setIfInBounds_toArray, List.set_cons_zero, List.set_cons_succ, i64_w, i32_w]
                          rfl
                        refine one_ (i := 7) (N := some 42) #[true, true, true, true, true, true, true, true, false, false, false, true, false, false] rfl rfl (one_of HT_.out (by kernel_rfl)) (by decide) (fun K hK => ?_)
                        refine goes_ Tryd.func107 (by kernel_rfl) rfl #[.slice A287_2 ((rd_T43 l0 x9_1).f2).length c287_2, .string a1_0] (by rfl) rfl rfl (by (try simp only [List.map_toArray, List.map_cons, List.map_nil]); first | done | rfl | (simp only [List.length_drop, List.length_take]; rfl)) ?_
                        with_reducible refine (cachepotref1_BatchFind.calls k1 _ _ ((rd_T43 l0 x9_1).f2) a1_0 t288 false t290 true _ ?side1 ?side2 A16.out).mono ?_
                        (case side1 => repeat (first | exact (Kd.C_below HR287_2.out HB.out) | (with_reducible refine Kd.C_alloc ?_ _) | (with_reducible refine Kd.C_drewN ?_ _) | (with_reducible refine Kd.C_drew ?_)))
                        (case side2 => exact HC287_2.out)
                        rintro e w32 ⟨rfl, hb⟩
                        refine ⟨_, rfl, ?_⟩
                        have n0_ := Aside0.mk (blk_below (g := gb284) (o := .cells #[.string a1_0, .bool false, .string a1_2, .int .u32 a1_3] 98 (0, 0)) (by (with_reducible repeat (first | refine blk_drewN ?_ _ | refine blk_drew ?_ | refine blk_alloc ?_ _)); exact BK284.out) hb)
                        have n1_ := Aside0.mk (blk_below (g := gb292) (o := .cells #[.string (⟨#[]⟩ : ByteArray), .bool false, .string (⟨#[]⟩ : ByteArray)] 101 (0, 0)) (by (with_reducible repeat (first | refine blk_drewN ?_ _ | refine blk_drew ?_ | refine blk_alloc ?_ _)); exact BK292.out) hb)
                        have n2_ := Aside0.mk (below_step (by repeat (first | (with_reducible first | exact HB.out | apply below_alloc | apply pw_below_drewN | apply below_drew1 | refine below_set ?_ GE284.out | refine below_set ?_ GE292.out) | exact HB.out)) hb)
                        clear BK284
                        clear BK292
                        clear HB
                        have BK284 := n0_
                        have BK292 := n1_
                        have HB := n2_
                        clear n0_ n1_ n2_
                        (try clear hb)
                        (try clear hb2)
                        (try clear hk)
                        (try clear hi)
                        refine hK.out _ _ ⟨(blk_cell BK284.out 0).trans rfl, (blk_cell BK284.out 1).trans rfl, (blk_cell BK284.out 2).trans rfl, (blk_cell BK284.out 3).trans rfl, ((HB.out.cell (World.block_lt_of_cell? w _ hw287_0)).trans hw287_0), ((HB.out.cell (World.block_lt_of_cell? w _ hw287_1)).trans hw287_1), ((HB.out.cell (World.block_lt_of_cell? w _ hw287_2)).trans hw287_2), ((HB.out.cell (World.block_lt_of_cell? w _ hw287_3)).trans hw287_3), ((HB.out.cell (World.block_lt_of_cell? w _ hw287_4)).trans hw287_4)⟩ (fun hHeld => ?_)
                        clear hK K
                        refine norm_ (a' := ?_) ?_ ?_
                        rotate_left
                        · show Act.put _ (some 42) _ = _
                          simp only [Act.put, List.setIfInBounds_toArray, List.set_cons_zero, List.set_cons_succ, i64_w, i32_w]
                          rfl
                        refine pure_ (i := 8) (N := some 34) (v := ?_) (a' := ?_) #[true, true, true, true, true, true, true, true, true, false, false, true, false, false] rfl rfl (any_of HT_.out (by kernel_rfl)) (fun _ _ _ h => h) (Or.inl ⟨by rfl, ?_⟩) ?_ ?_
                        rotate_left
                        · intro w'
                          go_simp
                          with_reducible rfl
                        rotate_left
                        · simp only [Act.put, List.setIfInBounds_toArray, List.set_cons_zero, List.set_cons_succ, i64_w, i32_w]
                          rfl
                        refine pure_ (i := 9) (N := some 43) (v := ?_) (a' := ?_) #[true, true, true, true, true, true, true, true, true, true, false, true, false, false] rfl rfl (any_of HT_.out (by kernel_rfl)) (fun _ _ _ h => h) (Or.inl ⟨by rfl, ?_⟩) ?_ ?_
                        rotate_left
                        · intro w'
                          go_simp
                          with_reducible rfl
                        rotate_left
                        · simp only [Act.put, List.setIfInBounds_toArray, List.set_cons_zero, List.set_cons_succ, i64_w, i32_w]
                          rfl
                        refine pure_ (i := 10) (N := some 44) (v := ?_) (a' := ?_) #[true, true, true, true, true, true, true, true, true, true, true, true, false, false] rfl rfl (any_of HT_.out (by kernel_rfl)) (fun _ _ _ h => h) (Or.inl ⟨by rfl, ?_⟩) ?_ ?_
                        rotate_left
                        · intro w'
                          go_simp
                          with_reducible rfl
                        rotate_left
                        · simp only [Act.put, List.setIfInBounds_toArray, List.set_cons_zero, List.set_cons_succ, i64_w, i32_w]
                          rfl
                        exact norm_ (by simp only [putAll, Act.put, List.setIfInBounds_toArray, List.set_cons_zero, List.set_cons_succ]) (hCont (gb292) _ ⟨hHeld, (by (with_reducible repeat (first | refine blk_drewN ?_ _ | refine blk_drew ?_ | refine blk_alloc ?_ _)); exact BK284.out), (by (with_reducible repeat (first | refine blk_drewN ?_ _ | refine blk_drew ?_ | refine blk_alloc ?_ _)); exact BK292.out), GW292.out, GE292.out, NB284_292.out, NB292_284.out, (by repeat (first | (with_reducible first | exact HB.out | apply below_alloc | apply pw_below_drewN | apply below_drew1 | refine below_set ?_ GE284.out | refine below_set ?_ GE292.out) | exact HB.out))⟩)
                    rintro gb292 w33 ⟨hS_, h0_, h1_, h2_, h3_, h4_, h5_, h6_⟩
                    have n0_ : Aside0 (w33.heap[gb284]? = some (.cells #[.string a1_0, .bool false, .string a1_2, .int .u32 a1_3] 98 (0, 0))) := ⟨h0_⟩
                    have n1_ : Aside0 (w33.heap[gb292]? = some (.cells #[.string (⟨#[]⟩ : ByteArray), .bool false, .string (⟨#[]⟩ : ByteArray)] 101 (0, 0))) := ⟨h1_⟩
                    have n2_ : Aside0 (w.heap.size ≤ gb292) := ⟨h2_⟩
                    have n3_ : Aside0 (w.heap.size ≤ gb292) := ⟨h3_⟩
                    have n4_ : Aside0 (gb284 ≠ gb292) := ⟨h4_⟩
                    have n5_ : Aside0 (gb292 ≠ gb284) := ⟨h5_⟩
                    have n6_ : Aside0 (Below w.heap.size w w33) := ⟨h6_⟩
                    clear BK284
                    clear HB
                    clear h0_ h1_ h2_ h3_ h4_ h5_ h6_
                    have BK284 := n0_
                    have BK292 := n1_
                    have GW292 := n2_
                    have GE292 := n3_
                    have NB284_292 := n4_
                    have NB292_284 := n5_
                    have HB := n6_
                    clear n0_ n1_ n2_ n3_ n4_ n5_ n6_
                    have hHeld : w33.cell? ⟨gb284, 0, none⟩ = some (.string a1_0) ∧ w33.cell? ⟨gb284, 1, none⟩ = some (.bool false) ∧ w33.cell? ⟨gb284, 2, none⟩ = some (.string a1_2) ∧ w33.cell? ⟨gb284, 3, none⟩ = some (.int .u32 a1_3) ∧ w33.cell? (ad285.add ((x9_1).toNat * 5)) = some (.int .i64 ((rd_T43 l0 x9_1).f0)) ∧ w33.cell? ⟨(ad285.add ((x9_1).toNat * 5)).block, (ad285.add ((x9_1).toNat * 5)).off + 1, none⟩ = some (.int .u32 ((rd_T43 l0 x9_1).f1)) ∧ w33.cell? ⟨(ad285.add ((x9_1).toNat * 5)).block, (ad285.add ((x9_1).toNat * 5)).off + 2, none⟩ = some (.slice A287_2 ((rd_T43 l0 x9_1).f2).length c287_2) ∧ w33.cell? ⟨(ad285.add ((x9_1).toNat * 5)).block, (ad285.add ((x9_1).toNat * 5)).off + 3, none⟩ = some (.slice A287_3 ((rd_T43 l0 x9_1).f3).length c287_3) ∧ w33.cell? ⟨(ad285.add ((x9_1).toNat * 5)).block, (ad285.add ((x9_1).toNat * 5)).off + 4, none⟩ = some (.slice A287_4 ((rd_T43 l0 x9_1).f4).length c287_4) := hS_
                    refine norm_ (a' := ?_) ?_ ?_
                    rotate_left
                    · simp only [putAll, Act.put, List.setIfInBounds_toArray, List.set_cons_zero, List.set_cons_succ]
                      rfl
                    refine one_ (i := 12) (N := none) #[true, true, true, true, true, true, true, true, true, true, true, true, true, false] rfl rfl (one_of HT_.out (by kernel_rfl)) (by decide) (fun K hK => ?_)
                    have hs34 : w33.cell? ⟨gb292, 0, none⟩ = some (.string (⟨#[]⟩ : ByteArray)) := (blk_cell BK292.out 0).trans rfl
                    have hfs34 := blk_frozen BK292.out 0
                    have hns34_0 := NB284_292.out
                    have hms34_0 := NB292_284.out
                    have hs35 : w33.cell? ⟨gb292, 1, none⟩ = some (.bool false) := (blk_cell BK292.out 1).trans rfl
                    have hfs35 := blk_frozen BK292.out 1
                    have hns35_0 := NB284_292.out
                    have hms35_0 := NB292_284.out
                    have hs36 : w33.cell? ⟨gb292, 2, none⟩ = some (.string (⟨#[]⟩ : ByteArray)) := (blk_cell BK292.out 2).trans rfl
                    have hfs36 := blk_frozen BK292.out 2
                    have hns36_0 := NB284_292.out
                    have hms36_0 := NB292_284.out
                    refine skip_ (w1 := ?_) (by rfl) rfl ?_ ?_
                    rotate_left
                    · go_simp
                      rfl
                    refine hK.out _ _ ⟨((cell_far (p := ⟨gb292, _, none⟩) NB284_292.out _).trans (((cell_far (p := ⟨gb292, _, none⟩) NB284_292.out _).trans (((cell_far (p := ⟨gb292, _, none⟩) NB284_292.out _).trans (hHeld.1)))))), ((cell_far (p := ⟨gb292, _, none⟩) NB284_292.out _).trans (((cell_far (p := ⟨gb292, _, none⟩) NB284_292.out _).trans (((cell_far (p := ⟨gb292, _, none⟩) NB284_292.out _).trans (hHeld.2.1)))))), ((cell_far (p := ⟨gb292, _, none⟩) NB284_292.out _).trans (((cell_far (p := ⟨gb292, _, none⟩) NB284_292.out _).trans (((cell_far (p := ⟨gb292, _, none⟩) NB284_292.out _).trans (hHeld.2.2.1)))))), ((cell_far (p := ⟨gb292, _, none⟩) NB284_292.out _).trans (((cell_far (p := ⟨gb292, _, none⟩) NB284_292.out _).trans (((cell_far (p := ⟨gb292, _, none⟩) NB284_292.out _).trans (hHeld.2.2.2.1)))))), ((cell_far (p := ⟨gb292, _, none⟩) (by first | exact Nat.ne_of_lt (Nat.lt_of_lt_of_le (by have := World.block_lt_of_cell? _ _ hw287_0; first | rwa [add_block] at this | exact this) GW292.out) | (rw [add_block]; exact Nat.ne_of_lt (Nat.lt_of_lt_of_le (by have := World.block_lt_of_cell? _ _ hw287_0; first | rwa [add_block] at this | exact this) GW292.out)) | (show (Addr.add _ _).block ≠ _; rw [add_block]; exact Nat.ne_of_lt (Nat.lt_of_lt_of_le (by have := World.block_lt_of_cell? _ _ hw287_0; first | rwa [add_block] at this | exact this) GW292.out)) | (dsimp only; exact Nat.ne_of_lt (Nat.lt_of_lt_of_le (by have := World.block_lt_of_cell? _ _ hw287_0; first | rwa [add_block] at this | exact this) GW292.out))) _).trans (((cell_far (p := ⟨gb292, _, none⟩) (by first | exact Nat.ne_of_lt (Nat.lt_of_lt_of_le (by have := World.block_lt_of_cell? _ _ hw287_0; first | rwa [add_block] at this | exact this) GW292.out) | (rw [add_block]; exact Nat.ne_of_lt (Nat.lt_of_lt_of_le (by have := World.block_lt_of_cell? _ _ hw287_0; first | rwa [add_block] at this | exact this) GW292.out)) | (show (Addr.add _ _).block ≠ _; rw [add_block]; exact Nat.ne_of_lt (Nat.lt_of_lt_of_le (by have := World.block_lt_of_cell? _ _ hw287_0; first | rwa [add_block] at this | exact this) GW292.out)) | (dsimp only; exact Nat.ne_of_lt (Nat.lt_of_lt_of_le (by have := World.block_lt_of_cell? _ _ hw287_0; first | rwa [add_block] at this | exact this) GW292.out))) _).trans (((cell_far (p := ⟨gb292, _, none⟩) (by first | exact Nat.ne_of_lt (Nat.lt_of_lt_of_le (by have := World.block_lt_of_cell? _ _ hw287_0; first | rwa [add_block] at this | exact this) GW292.out) | (rw [add_block]; exact Nat.ne_of_lt (Nat.lt_of_lt_of_le (by have := World.block_lt_of_cell? _ _ hw287_0; first | rwa [add_block] at this | exact this) GW292.out)) | (show (Addr.add _ _).block ≠ _; rw [add_block]; exact Nat.ne_of_lt (Nat.lt_of_lt_of_le (by have := World.block_lt_of_cell? _ _ hw287_0; first | rwa [add_block] at this | exact this) GW292.out)) | (dsimp only; exact Nat.ne_of_lt (Nat.lt_of_lt_of_le (by have := World.block_lt_of_cell? _ _ hw287_0; first | rwa [add_block] at this | exact this) GW292.out))) _).trans (hHeld.2.2.2.2.1)))))), ((cell_far (p := ⟨gb292, _, none⟩) (by first | exact Nat.ne_of_lt (Nat.lt_of_lt_of_le (by have := World.block_lt_of_cell? _ _ hw287_1; first | rwa [add_block] at this | exact this) GW292.out) | (rw [add_block]; exact Nat.ne_of_lt (Nat.lt_of_lt_of_le (by have := World.block_lt_of_cell? _ _ hw287_1; first | rwa [add_block] at this | exact this) GW292.out)) | (show (Addr.add _ _).block ≠ _; rw [add_block]; exact Nat.ne_of_lt (Nat.lt_of_lt_of_le (by have := World.block_lt_of_cell? _ _ hw287_1; first | rwa [add_block] at this | exact this) GW292.out)) | (dsimp only; exact Nat.ne_of_lt (Nat.lt_of_lt_of_le (by have := World.block_lt_of_cell? _ _ hw287_1; first | rwa [add_block] at this | exact this) GW292.out))) _).trans (((cell_far (p := ⟨gb292, _, none⟩) (by first | exact Nat.ne_of_lt (Nat.lt_of_lt_of_le (by have := World.block_lt_of_cell? _ _ hw287_1; first | rwa [add_block] at this | exact this) GW292.out) | (rw [add_block]; exact Nat.ne_of_lt (Nat.lt_of_lt_of_le (by have := World.block_lt_of_cell? _ _ hw287_1; first | rwa [add_block] at this | exact this) GW292.out)) | (show (Addr.add _ _).block ≠ _; rw [add_block]; exact Nat.ne_of_lt (Nat.lt_of_lt_of_le (by have := World.block_lt_of_cell? _ _ hw287_1; first | rwa [add_block] at this | exact this) GW292.out)) | (dsimp only; exact Nat.ne_of_lt (Nat.lt_of_lt_of_le (by have := World.block_lt_of_cell? _ _ hw287_1; first | rwa [add_block] at this | exact this) GW292.out))) _).trans (((cell_far (p := ⟨gb292, _, none⟩) (by first | exact Nat.ne_of_lt (Nat.lt_of_lt_of_le (by have := World.block_lt_of_cell? _ _ hw287_1; first | rwa [add_block] at this | exact this) GW292.out) | (rw [add_block]; exact Nat.ne_of_lt (Nat.lt_of_lt_of_le (by have := World.block_lt_of_cell? _ _ hw287_1; first | rwa [add_block] at this | exact this) GW292.out)) | (show (Addr.add _ _).block ≠ _; rw [add_block]; exact Nat.ne_of_lt (Nat.lt_of_lt_of_le (by have := World.block_lt_of_cell? _ _ hw287_1; first | rwa [add_block] at this | exact this) GW292.out)) | (dsimp only; exact Nat.ne_of_lt (Nat.lt_of_lt_of_le (by have := World.block_lt_of_cell? _ _ hw287_1; first | rwa [add_block] at this | exact this) GW292.out))) _).trans (hHeld.2.2.2.2.2.1)))))), ((cell_far (p := ⟨gb292, _, none⟩) (by first | exact Nat.ne_of_lt (Nat.lt_of_lt_of_le (by have := World.block_lt_of_cell? _ _ hw287_2; first | rwa [add_block] at this | exact this) GW292.out) | (rw [add_block]; exact Nat.ne_of_lt (Nat.lt_of_lt_of_le (by have := World.block_lt_of_cell? _ _ hw287_2; first | rwa [add_block] at this | exact this) GW292.out)) | (show (Addr.add _ _).block ≠ _; rw [add_block]; exact Nat.ne_of_lt (Nat.lt_of_lt_of_le (by have := World.block_lt_of_cell? _ _ hw287_2; first | rwa [add_block] at this | exact this) GW292.out)) | (dsimp only; exact Nat.ne_of_lt (Nat.lt_of_lt_of_le (by have := World.block_lt_of_cell? _ _ hw287_2; first | rwa [add_block] at this | exact this) GW292.out))) _).trans (((cell_far (p := ⟨gb292, _, none⟩) (by first | exact Nat.ne_of_lt (Nat.lt_of_lt_of_le (by have := World.block_lt_of_cell? _ _ hw287_2; first | rwa [add_block] at this | exact this) GW292.out) | (rw [add_block]; exact Nat.ne_of_lt (Nat.lt_of_lt_of_le (by have := World.block_lt_of_cell? _ _ hw287_2; first | rwa [add_block] at this | exact this) GW292.out)) | (show (Addr.add _ _).block ≠ _; rw [add_block]; exact Nat.ne_of_lt (Nat.lt_of_lt_of_le (by have := World.block_lt_of_cell? _ _ hw287_2; first | rwa [add_block] at this | exact this) GW292.out)) | (dsimp only; exact Nat.ne_of_lt (Nat.lt_of_lt_of_le (by have := World.block_lt_of_cell? _ _ hw287_2; first | rwa [add_block] at this | exact this) GW292.out))) _).trans (((cell_far (p := ⟨gb292, _, none⟩) (by first | exact Nat.ne_of_lt (Nat.lt_of_lt_of_le (by have := World.block_lt_of_cell? _ _ hw287_2; first | rwa [add_block] at this | exact this) GW292.out) | (rw [add_block]; exact Nat.ne_of_lt (Nat.lt_of_lt_of_le (by have := World.block_lt_of_cell? _ _ hw287_2; first | rwa [add_block] at this | exact this) GW292.out)) | (show (Addr.add _ _).block ≠ _; rw [add_block]; exact Nat.ne_of_lt (Nat.lt_of_lt_of_le (by have := World.block_lt_of_cell? _ _ hw287_2; first | rwa [add_block] at this | exact this) GW292.out)) | (dsimp only; exact Nat.ne_of_lt (Nat.lt_of_lt_of_le (by have := World.block_lt_of_cell? _ _ hw287_2; first | rwa [add_block] at this | exact this) GW292.out))) _).trans (hHeld.2.2.2.2.2.2.1)))))), ((cell_far (p := ⟨gb292, _, none⟩) (by first | exact Nat.ne_of_lt (Nat.lt_of_lt_of_le (by have := World.block_lt_of_cell? _ _ hw287_3; first | rwa [add_block] at this | exact this) GW292.out) | (rw [add_block]; exact Nat.ne_of_lt (Nat.lt_of_lt_of_le (by have := World.block_lt_of_cell? _ _ hw287_3; first | rwa [add_block] at this | exact this) GW292.out)) | (show (Addr.add _ _).block ≠ _; rw [add_block]; exact Nat.ne_of_lt (Nat.lt_of_lt_of_le (by have := World.block_lt_of_cell? _ _ hw287_3; first | rwa [add_block] at this | exact this) GW292.out)) | (dsimp only; exact Nat.ne_of_lt (Nat.lt_of_lt_of_le (by have := World.block_lt_of_cell? _ _ hw287_3; first | rwa [add_block] at this | exact this) GW292.out))) _).trans (((cell_far (p := ⟨gb292, _, none⟩) (by first | exact Nat.ne_of_lt (Nat.lt_of_lt_of_le (by have := World.block_lt_of_cell? _ _ hw287_3; first | rwa [add_block] at this | exact this) GW292.out) | (rw [add_block]; exact Nat.ne_of_lt (Nat.lt_of_lt_of_le (by have := World.block_lt_of_cell? _ _ hw287_3; first | rwa [add_block] at this | exact this) GW292.out)) | (show (Addr.add _ _).block ≠ _; rw [add_block]; exact Nat.ne_of_lt (Nat.lt_of_lt_of_le (by have := World.block_lt_of_cell? _ _ hw287_3; first | rwa [add_block] at this | exact this) GW292.out)) | (dsimp only; exact Nat.ne_of_lt (Nat.lt_of_lt_of_le (by have := World.block_lt_of_cell? _ _ hw287_3; first | rwa [add_block] at this | exact this) GW292.out))) _).trans (((cell_far (p := ⟨gb292, _, none⟩) (by first | exact Nat.ne_of_lt (Nat.lt_of_lt_of_le (by have := World.block_lt_of_cell? _ _ hw287_3; first | rwa [add_block] at this | exact this) GW292.out) | (rw [add_block]; exact Nat.ne_of_lt (Nat.lt_of_lt_of_le (by have := World.block_lt_of_cell? _ _ hw287_3; first | rwa [add_block] at this | exact this) GW292.out)) | (show (Addr.add _ _).block ≠ _; rw [add_block]; exact Nat.ne_of_lt (Nat.lt_of_lt_of_le (by have := World.block_lt_of_cell? _ _ hw287_3; first | rwa [add_block] at this | exact this) GW292.out)) | (dsimp only; exact Nat.ne_of_lt (Nat.lt_of_lt_of_le (by have := World.block_lt_of_cell? _ _ hw287_3; first | rwa [add_block] at this | exact this) GW292.out))) _).trans (hHeld.2.2.2.2.2.2.2.1)))))), ((cell_far (p := ⟨gb292, _, none⟩) (by first | exact Nat.ne_of_lt (Nat.lt_of_lt_of_le (by have := World.block_lt_of_cell? _ _ hw287_4; first | rwa [add_block] at this | exact this) GW292.out) | (rw [add_block]; exact Nat.ne_of_lt (Nat.lt_of_lt_of_le (by have := World.block_lt_of_cell? _ _ hw287_4; first | rwa [add_block] at this | exact this) GW292.out)) | (show (Addr.add _ _).block ≠ _; rw [add_block]; exact Nat.ne_of_lt (Nat.lt_of_lt_of_le (by have := World.block_lt_of_cell? _ _ hw287_4; first | rwa [add_block] at this | exact this) GW292.out)) | (dsimp only; exact Nat.ne_of_lt (Nat.lt_of_lt_of_le (by have := World.block_lt_of_cell? _ _ hw287_4; first | rwa [add_block] at this | exact this) GW292.out))) _).trans (((cell_far (p := ⟨gb292, _, none⟩) (by first | exact Nat.ne_of_lt (Nat.lt_of_lt_of_le (by have := World.block_lt_of_cell? _ _ hw287_4; first | rwa [add_block] at this | exact this) GW292.out) | (rw [add_block]; exact Nat.ne_of_lt (Nat.lt_of_lt_of_le (by have := World.block_lt_of_cell? _ _ hw287_4; first | rwa [add_block] at this | exact this) GW292.out)) | (show (Addr.add _ _).block ≠ _; rw [add_block]; exact Nat.ne_of_lt (Nat.lt_of_lt_of_le (by have := World.block_lt_of_cell? _ _ hw287_4; first | rwa [add_block] at this | exact this) GW292.out)) | (dsimp only; exact Nat.ne_of_lt (Nat.lt_of_lt_of_le (by have := World.block_lt_of_cell? _ _ hw287_4; first | rwa [add_block] at this | exact this) GW292.out))) _).trans (((cell_far (p := ⟨gb292, _, none⟩) (by first | exact Nat.ne_of_lt (Nat.lt_of_lt_of_le (by have := World.block_lt_of_cell? _ _ hw287_4; first | rwa [add_block] at this | exact this) GW292.out) | (rw [add_block]; exact Nat.ne_of_lt (Nat.lt_of_lt_of_le (by have := World.block_lt_of_cell? _ _ hw287_4; first | rwa [add_block] at this | exact this) GW292.out)) | (show (Addr.add _ _).block ≠ _; rw [add_block]; exact Nat.ne_of_lt (Nat.lt_of_lt_of_le (by have := World.block_lt_of_cell? _ _ hw287_4; first | rwa [add_block] at this | exact this) GW292.out)) | (dsimp only; exact Nat.ne_of_lt (Nat.lt_of_lt_of_le (by have := World.block_lt_of_cell? _ _ hw287_4; first | rwa [add_block] at this | exact this) GW292.out))) _).trans (hHeld.2.2.2.2.2.2.2.2))))))⟩ (fun hHeld => ?_)
                    clear hK K
                    refine pure_ (i := 13) (N := some 11) (v := ?_) (a' := ?_) #[true, true, true, true, true, true, true, true, true, true, true, true, true, true] rfl rfl (any_of HT_.out (by kernel_rfl)) (fun _ _ _ h => h) (Or.inl ⟨by rfl, ?_⟩) ?_ ?_
                    rotate_left
                    · intro w'
                      go_simp
                      with_reducible rfl
                    rotate_left
                    · simp only [Act.put, List.setIfInBounds_toArray, List.set_cons_zero, List.set_cons_succ, i64_w, i32_w]
                      rfl
                    refine done_ (done_of HT_.out (by kernel_rfl)) ?_
                    have hnb37 := NB292_284.out
                    have hnc37 := NB284_292.out
                    have hcz38_0 : w33.cell? ⟨gb292, 0, none⟩ = some (.string (⟨#[]⟩ : ByteArray)) := (blk_cell BK292.out 0).trans rfl
                    have hcz38_1 : w33.cell? ⟨gb292, 1, none⟩ = some (.bool false) := (blk_cell BK292.out 1).trans rfl
                    have hcz38_2 : w33.cell? ⟨gb292, 2, none⟩ = some (.string (⟨#[]⟩ : ByteArray)) := (blk_cell BK292.out 2).trans rfl
                    have hfz38_0 := blk_frozen BK292.out 0
                    have hfz38_1 := blk_frozen BK292.out 1
                    have hfz38_2 := blk_frozen BK292.out 2
                    try go_wp2
                    go_roundg k1
                    case measure => have := HK1.out; omega
                    case rel => exact ⟨(wrap64 (x9_1 + 1)), (by first | rfl | (simp; done) | (simp [*]; done)), H', ⟨by have := HK1.out; omega⟩, ⟨by (with_reducible repeat (first | refine blk_drewN ?_ _ | refine blk_drew ?_ | refine blk_alloc ?_ _)); refine blk_far ?_ NB284_292.out _; (with_reducible repeat (first | refine blk_drewN ?_ _ | refine blk_drew ?_ | refine blk_alloc ?_ _)); refine blk_far ?_ NB284_292.out _; (with_reducible repeat (first | refine blk_drewN ?_ _ | refine blk_drew ?_ | refine blk_alloc ?_ _)); refine blk_far ?_ NB284_292.out _; (with_reducible repeat (first | refine blk_drewN ?_ _ | refine blk_drew ?_ | refine blk_alloc ?_ _)); exact BK284.out⟩, ⟨by repeat (first | (with_reducible first | exact HB.out | apply below_alloc | apply pw_below_drewN | apply below_drew1 | refine below_set ?_ GE284.out | refine below_set ?_ GE292.out) | exact HB.out)⟩⟩
                · replace c17 := Bool.eq_false_iff.mpr c17
                  subst c17
                  have H1 : (cachepotref3_later.l0 k1 l0 a3 (wrap64 (x9_1 + 1)) a1_0 false a1_2 a1_3) = some r := by rw [if_neg (show ¬ (false = true) by decide)] at H; exact H
                  clear H
                  have H := H1
                  clear H1
                  have H' := Aside0.mk H
                  clear H
                  have p285 : 0 ≤ (x9_1 : Int) := of_decide_eq_true (by first | (with_reducible assumption) | assumption)
                  have q285 : x9_1 < (l0.length : Int) := of_decide_eq_true (by first | (with_reducible assumption) | assumption)
                  obtain ⟨ad285, A285_2, c285_2, A285_3, c285_3, A285_4, c285_4, e285, hx285_0, hx285_1, hx285_2, hx285_3, hx285_4, hl285_2, hi285_2, hl285_3, hi285_3, hl285_4, hi285_4⟩ := at_T43 HR0.out x9_1 p285 q285
                  cases e285
                  replace hx285_0 := (HB.out.cell (World.block_lt_of_cell? w _ hx285_0)).trans hx285_0
                  replace hx285_1 := (HB.out.cell (World.block_lt_of_cell? w _ hx285_1)).trans hx285_1
                  replace hx285_2 := (HB.out.cell (World.block_lt_of_cell? w _ hx285_2)).trans hx285_2
                  replace hx285_3 := (HB.out.cell (World.block_lt_of_cell? w _ hx285_3)).trans hx285_3
                  replace hx285_4 := (HB.out.cell (World.block_lt_of_cell? w _ hx285_4)).trans hx285_4
                  have HR285_2 := Aside0.mk hi285_2
                  have HC285_2 := Aside0.mk hl285_2
                  clear hi285_2 hl285_2
                  have HR285_3 := Aside0.mk hi285_3
                  have HC285_3 := Aside0.mk hl285_3
                  clear hi285_3 hl285_3
                  have HR285_4 := Aside0.mk hi285_4
                  have HC285_4 := Aside0.mk hl285_4
                  clear hi285_4 hl285_4
                  replace p285 := eq_true p285
                  replace q285 := eq_true q285
                  have hcz39_0 : wr.cell? ⟨gb284, 0, none⟩ = some (.string a1_0) := (blk_cell BK284.out 0).trans rfl
                  have hcz39_1 : wr.cell? ⟨gb284, 1, none⟩ = some (.bool false) := (blk_cell BK284.out 1).trans rfl
                  have hcz39_2 : wr.cell? ⟨gb284, 2, none⟩ = some (.string a1_2) := (blk_cell BK284.out 2).trans rfl
                  have hcz39_3 : wr.cell? ⟨gb284, 3, none⟩ = some (.int .u32 a1_3) := (blk_cell BK284.out 3).trans rfl
                  have hfz39_0 := blk_frozen BK284.out 0
                  have hfz39_1 := blk_frozen BK284.out 1
                  have hfz39_2 := blk_frozen BK284.out 2
                  have hfz39_3 := blk_frozen BK284.out 3
                  try go_wp2
                  have n0_ := Aside0.mk (blk_drew BK284.out)
                  have n1_ := Aside0.mk (below_drew1 HB.out)
                  clear BK284
                  clear HB
                  have BK284 := n0_
                  have HB := n1_
                  clear n0_ n1_
                  have p287 : 0 ≤ (x9_1 : Int) := of_decide_eq_true (by first | (with_reducible assumption) | assumption)
                  have q287 : x9_1 < (l0.length : Int) := of_decide_eq_true (by first | (with_reducible assumption) | assumption)
                  obtain ⟨ad287, A287_2, c287_2, A287_3, c287_3, A287_4, c287_4, e287, hx287_0, hx287_1, hx287_2, hx287_3, hx287_4, hl287_2, hi287_2, hl287_3, hi287_3, hl287_4, hi287_4⟩ := at_T43 HR0.out x9_1 p287 q287
                  have hw287_4 := hx287_4
                  have hw287_3 := hx287_3
                  have hw287_2 := hx287_2
                  have hw287_1 := hx287_1
                  have hw287_0 := hx287_0
                  obtain rfl : ad285 = ad287 := (by injection e287)
                  replace hx287_0 := (HB.out.cell (World.block_lt_of_cell? w _ hx287_0)).trans hx287_0
                  replace hx287_1 := (HB.out.cell (World.block_lt_of_cell? w _ hx287_1)).trans hx287_1
                  replace hx287_2 := (HB.out.cell (World.block_lt_of_cell? w _ hx287_2)).trans hx287_2
                  replace hx287_3 := (HB.out.cell (World.block_lt_of_cell? w _ hx287_3)).trans hx287_3
                  replace hx287_4 := (HB.out.cell (World.block_lt_of_cell? w _ hx287_4)).trans hx287_4
                  have HR287_2 := Aside0.mk hi287_2
                  have HC287_2 := Aside0.mk hl287_2
                  clear hi287_2 hl287_2
                  have HR287_3 := Aside0.mk hi287_3
                  have HC287_3 := Aside0.mk hl287_3
                  clear hi287_3 hl287_3
                  have HR287_4 := Aside0.mk hi287_4
                  have HC287_4 := Aside0.mk hl287_4
                  clear hi287_4 hl287_4
                  replace p287 := eq_true p287
                  replace q287 := eq_true q287
                  refine start_ (n := 14) (S := fun w' => w'.cell? ⟨gb284, 0, none⟩ = some (.string a1_0) ∧ w'.cell? ⟨gb284, 1, none⟩ = some (.bool false) ∧ w'.cell? ⟨gb284, 2, none⟩ = some (.string a1_2) ∧ w'.cell? ⟨gb284, 3, none⟩ = some (.int .u32 a1_3) ∧ w'.cell? (ad285.add ((x9_1).toNat * 5)) = some (.int .i64 ((rd_T43 l0 x9_1).f0)) ∧ w'.cell? ⟨(ad285.add ((x9_1).toNat * 5)).block, (ad285.add ((x9_1).toNat * 5)).off + 1, none⟩ = some (.int .u32 ((rd_T43 l0 x9_1).f1)) ∧ w'.cell? ⟨(ad285.add ((x9_1).toNat * 5)).block, (ad285.add ((x9_1).toNat * 5)).off + 2, none⟩ = some (.slice A287_2 ((rd_T43 l0 x9_1).f2).length c287_2) ∧ w'.cell? ⟨(ad285.add ((x9_1).toNat * 5)).block, (ad285.add ((x9_1).toNat * 5)).off + 3, none⟩ = some (.slice A287_3 ((rd_T43 l0 x9_1).f3).length c287_3) ∧ w'.cell? ⟨(ad285.add ((x9_1).toNat * 5)).block, (ad285.add ((x9_1).toNat * 5)).off + 4, none⟩ = some (.slice A287_4 ((rd_T43 l0 x9_1).f4).length c287_4)) (ds := []) #[false, false, false, false, false, false, false, false, false, false, false, false, false, false] (by kernel_rfl) rfl rfl ⟨(blk_cell BK284.out 0).trans rfl, (blk_cell BK284.out 1).trans rfl, (blk_cell BK284.out 2).trans rfl, (blk_cell BK284.out 3).trans rfl, ((HB.out.cell (World.block_lt_of_cell? w _ hw287_0)).trans hw287_0), ((HB.out.cell (World.block_lt_of_cell? w _ hw287_1)).trans hw287_1), ((HB.out.cell (World.block_lt_of_cell? w _ hw287_2)).trans hw287_2), ((HB.out.cell (World.block_lt_of_cell? w _ hw287_3)).trans hw287_3), ((HB.out.cell (World.block_lt_of_cell? w _ hw287_4)).trans hw287_4)⟩ (fun hHeld => ?_); refine with_tabW cachepotref3_later.tab8 cachepotref3_later.bits8 (fun HT_ HW_ => ?_)
                  generalize wr.drew = w40 at BK284 HB HR287_2 HR287_3 HR287_4 hx287_0 hx287_1 hx287_2 hx287_3 hx287_4 hHeld ⊢
                  refine pure_ (i := 0) (N := some 35) (v := ?_) (a' := ?_) #[true, false, false, false, false, false, false, false, false, false, false, false, false, false] rfl rfl (any_of HT_.out (by kernel_rfl)) (fun _ _ _ h => h) (Or.inl ⟨by rfl, ?_⟩) ?_ ?_
                  rotate_left
                  · intro w'
                    go_simp
                    with_reducible rfl
                  rotate_left
                  · simp only [Act.put, List.setIfInBounds_toArray, List.set_cons_zero, List.set_cons_succ, i64_w, i32_w]
                    rfl
                  refine pure_ (i := 1) (N := some 36) (v := ?_) (a' := ?_) #[true, true, false, false, false, false, false, false, false, false, false, false, false, false] rfl rfl (any_of HT_.out (by kernel_rfl)) (fun _ _ _ h => h) (Or.inl ⟨by rfl, ?_⟩) ?_ ?_
                  rotate_left
                  · intro w'
                    go_simp
                    with_reducible rfl
                  rotate_left
                  · simp only [Act.put, List.setIfInBounds_toArray, List.set_cons_zero, List.set_cons_succ, i64_w, i32_w]
                    rfl
                  refine pure_ (i := 2) (N := some 37) (v := ?_) (a' := ?_) #[true, true, true, false, false, false, false, false, false, false, false, false, false, false] rfl rfl (any_of HT_.out (by kernel_rfl)) (fun _ _ _ h => h) (Or.inl ⟨by rfl, ?_⟩) ?_ ?_
                  rotate_left
                  · intro w'
                    go_simp
                    with_reducible rfl
                  rotate_left
                  · simp only [Act.put, List.setIfInBounds_toArray, List.set_cons_zero, List.set_cons_succ, i64_w, i32_w]
                    rfl
                  refine pure_ (i := 3) (N := some 38) (v := ?_) (a' := ?_) #[true, true, true, true, false, false, false, false, false, false, false, false, false, false] rfl rfl (any_of HT_.out (by kernel_rfl)) (fun _ _ _ h => h) (Or.inl ⟨by rfl, ?_⟩) ?_ ?_
                  rotate_left
                  · intro w'
                    go_simp
                    with_reducible rfl
                  rotate_left
                  · simp only [Act.put, List.setIfInBounds_toArray, List.set_cons_zero, List.set_cons_succ, i64_w, i32_w]
                    rfl
                  refine pure_ (i := 5) (N := some 40) (v := ?_) (a' := ?_) #[true, true, true, true, false, true, false, false, false, false, false, false, false, false] rfl rfl (any_of HT_.out (by kernel_rfl)) (fun _ _ _ h => h) (Or.inl ⟨by rfl, ?_⟩) ?_ ?_
                  rotate_left
                  · intro w'
                    go_simp
                    with_reducible rfl
                  rotate_left
                  · simp only [Act.put, List.setIfInBounds_toArray, List.set_cons_zero, List.set_cons_succ, i64_w, i32_w]
                    rfl
                  refine take_ (i := 4) (N := some 39) (v := ?_) (a' := ?_) #[true, true, true, true, true, true, false, false, false, false, false, false, false, false] rfl rfl (take_ofW HT_.out HW_.out (by kernel_rfl)) (fun _ _ _ h => h) (Or.inl ⟨by rfl, ?_⟩) hHeld ?_ ?_
                  rotate_left
                  · rintro w' ⟨s0, s1, s2, s3, s4, s5, s6, s7, s8⟩
                    go_simp
                    with_reducible rfl
                  rotate_left
                  · simp only [Act.put, List.setIfInBounds_toArray, List.set_cons_zero, List.set_cons_succ, i64_w, i32_w]
                    rfl
                  refine take_ (i := 6) (N := some 41) (v := ?_) (a' := ?_) #[true, true, true, true, true, true, true, false, false, false, false, false, false, false] rfl rfl (take_ofW HT_.out HW_.out (by kernel_rfl)) (fun _ _ _ h => h) (Or.inl ⟨by rfl, ?_⟩) hHeld ?_ ?_
                  rotate_left
                  · rintro w' ⟨s0, s1, s2, s3, s4, s5, s6, s7, s8⟩
                    go_simp
                    with_reducible rfl
                  rotate_left
                  · simp only [Act.put, List.setIfInBounds_toArray, List.set_cons_zero, List.set_cons_succ, i64_w, i32_w]
                    rfl
                  refine join_ (σ := Nat) 2 #[true, true, true, true, true, true, true, true, true, true, true, true, false, false] (fun s_ => [(42, .tuple #[.agg #[.string t288, .bool t289, .string t290], .bool false]), (10, .pointer (some ⟨s_, 0, none⟩)), (34, .tuple #[.agg #[.string t288, .bool t289, .string t290], .bool false]), (43, .agg #[.string t288, .bool t289, .string t290]), (44, .bool false)]) (fun s_ w' => (w'.cell? ⟨gb284, 0, none⟩ = some (.string a1_0) ∧ w'.cell? ⟨gb284, 1, none⟩ = some (.bool false) ∧ w'.cell? ⟨gb284, 2, none⟩ = some (.string a1_2) ∧ w'.cell? ⟨gb284, 3, none⟩ = some (.int .u32 a1_3) ∧ w'.cell? (ad285.add ((x9_1).toNat * 5)) = some (.int .i64 ((rd_T43 l0 x9_1).f0)) ∧ w'.cell? ⟨(ad285.add ((x9_1).toNat * 5)).block, (ad285.add ((x9_1).toNat * 5)).off + 1, none⟩ = some (.int .u32 ((rd_T43 l0 x9_1).f1)) ∧ w'.cell? ⟨(ad285.add ((x9_1).toNat * 5)).block, (ad285.add ((x9_1).toNat * 5)).off + 2, none⟩ = some (.slice A287_2 ((rd_T43 l0 x9_1).f2).length c287_2) ∧ w'.cell? ⟨(ad285.add ((x9_1).toNat * 5)).block, (ad285.add ((x9_1).toNat * 5)).off + 3, none⟩ = some (.slice A287_3 ((rd_T43 l0 x9_1).f3).length c287_3) ∧ w'.cell? ⟨(ad285.add ((x9_1).toNat * 5)).block, (ad285.add ((x9_1).toNat * 5)).off + 4, none⟩ = some (.slice A287_4 ((rd_T43 l0 x9_1).f4).length c287_4)) ∧ (w'.heap[gb284]? = some (.cells #[.string a1_0, .bool false, .string a1_2, .int .u32 a1_3] 98 (0, 0))) ∧ (w'.heap[s_]? = some (.cells #[.string (⟨#[]⟩ : ByteArray), .bool false, .string (⟨#[]⟩ : ByteArray)] 101 (0, 0))) ∧ (w.heap.size ≤ s_) ∧ (w.heap.size ≤ s_) ∧ (gb284 ≠ s_) ∧ (s_ ≠ gb284) ∧ (Below w.heap.size w w')) ?_ ?_
                  rotate_left
                  · intro hCont
                    refine two_ (i := 7) (j := 11) (Ni := some 42) (Nj := some 10) #[true, true, true, true, true, true, true, true, false, false, false, false, false, false] #[true, true, true, true, true, true, true, false, false, false, false, true, false, false] rfl rfl rfl rfl (two_of HT_.out (by kernel_rfl)) (by decide) (by decide) (fun K hK => ?_) (fun K hK => ?_)
                    · skip
                      refine goes_ Tryd.func107 (by kernel_rfl) rfl #[.slice A287_2 ((rd_T43 l0 x9_1).f2).length c287_2, .string a1_0] (by rfl) rfl rfl (by (try simp only [List.map_toArray, List.map_cons, List.map_nil]); first | done | rfl | (simp only [List.length_drop, List.length_take]; rfl)) ?_
                      with_reducible refine (cachepotref1_BatchFind.calls k1 _ _ ((rd_T43 l0 x9_1).f2) a1_0 t288 t289 t290 false _ ?side1 ?side2 A16.out).mono ?_
                      (case side1 => repeat (first | exact (Kd.C_below HR287_2.out HB.out) | (with_reducible refine Kd.C_alloc ?_ _) | (with_reducible refine Kd.C_drewN ?_ _) | (with_reducible refine Kd.C_drew ?_)))
                      (case side2 => exact HC287_2.out)
                      rintro e w41 ⟨rfl, hb⟩
                      refine ⟨_, rfl, ?_⟩
                      have n0_ := Aside0.mk (blk_below (g := gb284) (o := .cells #[.string a1_0, .bool false, .string a1_2, .int .u32 a1_3] 98 (0, 0)) (by (with_reducible repeat (first | refine blk_drewN ?_ _ | refine blk_drew ?_ | refine blk_alloc ?_ _)); exact BK284.out) hb)
                      have n1_ := Aside0.mk (below_step (by repeat (first | (with_reducible first | exact HB.out | apply below_alloc | apply pw_below_drewN | apply below_drew1 | refine below_set ?_ GE284.out) | exact HB.out)) hb)
                      clear BK284
                      clear HB
                      have BK284 := n0_
                      have HB := n1_
                      clear n0_ n1_
                      (try clear hb)
                      (try clear hb2)
                      (try clear hk)
                      (try clear hi)
                      refine hK.out _ _ ⟨(blk_cell BK284.out 0).trans rfl, (blk_cell BK284.out 1).trans rfl, (blk_cell BK284.out 2).trans rfl, (blk_cell BK284.out 3).trans rfl, ((HB.out.cell (World.block_lt_of_cell? w _ hw287_0)).trans hw287_0), ((HB.out.cell (World.block_lt_of_cell? w _ hw287_1)).trans hw287_1), ((HB.out.cell (World.block_lt_of_cell? w _ hw287_2)).trans hw287_2), ((HB.out.cell (World.block_lt_of_cell? w _ hw287_3)).trans hw287_3), ((HB.out.cell (World.block_lt_of_cell? w _ hw287_4)).trans hw287_4)⟩ (fun hHeld => ?_)
                      clear hK K
                      refine norm_ (a' := ?_) ?_ ?_
                      rotate_left
                      · show Act.put _ (some 42) _ = _
                        simp only [Act.put, List.setIfInBounds_toArray, List.set_cons_zero, List.set_cons_succ, i64_w, i32_w]
                        rfl
                      refine pure_ (i := 8) (N := some 34) (v := ?_) (a' := ?_) #[true, true, true, true, true, true, true, true, true, false, false, false, false, false] rfl rfl (any_of HT_.out (by kernel_rfl)) (fun _ _ _ h => h) (Or.inl ⟨by rfl, ?_⟩) ?_ ?_
                      rotate_left
                      · intro w'
                        go_simp
                        with_reducible rfl
                      rotate_left
                      · simp only [Act.put, List.setIfInBounds_toArray, List.set_cons_zero, List.set_cons_succ, i64_w, i32_w]
                        rfl
                      refine pure_ (i := 9) (N := some 43) (v := ?_) (a' := ?_) #[true, true, true, true, true, true, true, true, true, true, false, false, false, false] rfl rfl (any_of HT_.out (by kernel_rfl)) (fun _ _ _ h => h) (Or.inl ⟨by rfl, ?_⟩) ?_ ?_
                      rotate_left
                      · intro w'
                        go_simp
                        with_reducible rfl
                      rotate_left
                      · simp only [Act.put, List.setIfInBounds_toArray, List.set_cons_zero, List.set_cons_succ, i64_w, i32_w]
                        rfl
                      refine pure_ (i := 10) (N := some 44) (v := ?_) (a' := ?_) #[true, true, true, true, true, true, true, true, true, true, true, false, false, false] rfl rfl (any_of HT_.out (by kernel_rfl)) (fun _ _ _ h => h) (Or.inl ⟨by rfl, ?_⟩) ?_ ?_
                      rotate_left
                      · intro w'
                        go_simp
                        with_reducible rfl
                      rotate_left
                      · simp only [Act.put, List.setIfInBounds_toArray, List.set_cons_zero, List.set_cons_succ, i64_w, i32_w]
                        rfl
                      refine one_ (i := 11) (N := some 10) #[true, true, true, true, true, true, true, true, true, true, true, true, false, false] rfl rfl (one_of HT_.out (by kernel_rfl)) (by decide) (fun K hK => ?_)
                      refine box_step ?hg (N := 10) ?hd (cs := #[.string (⟨#[]⟩ : ByteArray), .bool false, .string (⟨#[]⟩ : ByteArray)]) (t := 101) ?hr ?_; (case hd => rfl); (case hg => rfl); (case hr => first | (go_simp; done) | (go_simp; rfl))
                      intro gb292 hg w42 hbox hb
                      have n0_ := Aside0.mk (blk_below (g := gb284) (o := .cells #[.string a1_0, .bool false, .string a1_2, .int .u32 a1_3] 98 (0, 0)) (by (with_reducible repeat (first | refine blk_drewN ?_ _ | refine blk_drew ?_ | refine blk_alloc ?_ _)); exact BK284.out) hb)
                      have n1_ := Aside0.mk (below_step (by repeat (first | (with_reducible first | exact HB.out | apply below_alloc | apply pw_below_drewN | apply below_drew1 | refine below_set ?_ GE284.out) | exact HB.out)) hb)
                      have n2_ := Aside0.mk (hbox)
                      have n3_ := Aside0.mk ((by rw [hg]; exact (below_size (by repeat (first | (with_reducible first | exact HB.out | apply below_alloc | apply pw_below_drewN | apply below_drew1 | refine below_set ?_ GE284.out) | exact HB.out))) : w.heap.size ≤ gb292))
                      have n4_ := Aside0.mk ((by rw [hg]; exact (below_size (by repeat (first | (with_reducible first | exact HB.out | apply below_alloc | apply pw_below_drewN | apply below_drew1 | refine below_set ?_ GE284.out) | exact HB.out))) : w.heap.size ≤ gb292))
                      have n5_ := Aside0.mk ((by rw [hg]; exact Nat.ne_of_lt (blk_lt (g := gb284) (o := .cells #[.string a1_0, .bool false, .string a1_2, .int .u32 a1_3] 98 (0, 0)) (by (with_reducible repeat (first | refine blk_drewN ?_ _ | refine blk_drew ?_ | refine blk_alloc ?_ _)); exact BK284.out)) : gb284 ≠ gb292))
                      have n6_ := Aside0.mk ((by rw [hg]; exact Nat.ne_of_gt (blk_lt (g := gb284) (o := .cells #[.string a1_0, .bool false, .string a1_2, .int .u32 a1_3] 98 (0, 0)) (by (with_reducible repeat (first | refine blk_drewN ?_ _ | refine blk_drew ?_ | refine blk_alloc ?_ _)); exact BK284.out)) : gb292 ≠ gb284))
                      clear BK284
                      clear HB
                      have BK284 := n0_
                      have HB := n1_
                      have BK292 := n2_
                      have GW292 := n3_
                      have GE292 := n4_
                      have NB284_292 := n5_
                      have NB292_284 := n6_
                      clear n0_ n1_ n2_ n3_ n4_ n5_ n6_
                      clear hb hbox hg
                      refine hK.out _ _ ⟨(blk_cell BK284.out 0).trans rfl, (blk_cell BK284.out 1).trans rfl, (blk_cell BK284.out 2).trans rfl, (blk_cell BK284.out 3).trans rfl, ((HB.out.cell (World.block_lt_of_cell? w _ hw287_0)).trans hw287_0), ((HB.out.cell (World.block_lt_of_cell? w _ hw287_1)).trans hw287_1), ((HB.out.cell (World.block_lt_of_cell? w _ hw287_2)).trans hw287_2), ((HB.out.cell (World.block_lt_of_cell? w _ hw287_3)).trans hw287_3), ((HB.out.cell (World.block_lt_of_cell? w _ hw287_4)).trans hw287_4)⟩ (fun hHeld => ?_)
                      clear hK K
                      refine norm_ (a' := ?_) ?_ ?_
                      rotate_left
                      · show Act.put _ (some 10) _ = _
                        simp only [Act.put, List.setIfInBounds_toArray, List.set_cons_zero, List.set_cons_succ, i64_w, i32_w]
                        rfl
                      exact norm_ (by simp only [putAll, Act.put, List.setIfInBounds_toArray, List.set_cons_zero, List.set_cons_succ]) (hCont (gb292) _ ⟨hHeld, (by (with_reducible repeat (first | refine blk_drewN ?_ _ | refine blk_drew ?_ | refine blk_alloc ?_ _)); exact BK284.out), (by (with_reducible repeat (first | refine blk_drewN ?_ _ | refine blk_drew ?_ | refine blk_alloc ?_ _)); exact BK292.out), GW292.out, GE292.out, NB284_292.out, NB292_284.out, (by repeat (first | (with_reducible first | exact HB.out | apply below_alloc | apply pw_below_drewN | apply below_drew1 | refine below_set ?_ GE284.out | refine below_set ?_ GE292.out) | exact HB.out))⟩)
                    · skip
                      refine box_step ?hg (N := 10) ?hd (cs := #[.string (⟨#[]⟩ : ByteArray), .bool false, .string (⟨#[]⟩ : ByteArray)]) (t := 101) ?hr ?_; (case hd => rfl); (case hg => rfl); (case hr => first | (go_simp; done) | (go_simp; rfl))
                      intro gb292 hg w41 hbox hb
                      have n0_ := Aside0.mk (blk_below (g := gb284) (o := .cells #[.string a1_0, .bool false, .string a1_2, .int .u32 a1_3] 98 (0, 0)) (by (with_reducible repeat (first | refine blk_drewN ?_ _ | refine blk_drew ?_ | refine blk_alloc ?_ _)); exact BK284.out) hb)
                      have n1_ := Aside0.mk (below_step (by repeat (first | (with_reducible first | exact HB.out | apply below_alloc | apply pw_below_drewN | apply below_drew1 | refine below_set ?_ GE284.out) | exact HB.out)) hb)
                      have n2_ := Aside0.mk (hbox)
                      have n3_ := Aside0.mk ((by rw [hg]; exact (below_size (by repeat (first | (with_reducible first | exact HB.out | apply below_alloc | apply pw_below_drewN | apply below_drew1 | refine below_set ?_ GE284.out) | exact HB.out))) : w.heap.size ≤ gb292))
                      have n4_ := Aside0.mk ((by rw [hg]; exact (below_size (by repeat (first | (with_reducible first | exact HB.out | apply below_alloc | apply pw_below_drewN | apply below_drew1 | refine below_set ?_ GE284.out) | exact HB.out))) : w.heap.size ≤ gb292))
                      have n5_ := Aside0.mk ((by rw [hg]; exact Nat.ne_of_lt (blk_lt (g := gb284) (o := .cells #[.string a1_0, .bool false, .string a1_2, .int .u32 a1_3] 98 (0, 0)) (by (with_reducible repeat (first | refine blk_drewN ?_ _ | refine blk_drew ?_ | refine blk_alloc ?_ _)); exact BK284.out)) : gb284 ≠ gb292))
                      have n6_ := Aside0.mk ((by rw [hg]; exact Nat.ne_of_gt (blk_lt (g := gb284) (o := .cells #[.string a1_0, .bool false, .string a1_2, .int .u32 a1_3] 98 (0, 0)) (by (with_reducible repeat (first | refine blk_drewN ?_ _ | refine blk_drew ?_ | refine blk_alloc ?_ _)); exact BK284.out)) : gb292 ≠ gb284))
                      clear BK284
                      clear HB
                      have BK284 := n0_
                      have HB := n1_
                      have BK292 := n2_
                      have GW292 := n3_
                      have GE292 := n4_
                      have NB284_292 := n5_
                      have NB292_284 := n6_
                      clear n0_ n1_ n2_ n3_ n4_ n5_ n6_
                      clear hb hbox hg
                      refine hK.out _ _ ⟨(blk_cell BK284.out 0).trans rfl, (blk_cell BK284.out 1).trans rfl, (blk_cell BK284.out 2).trans rfl, (blk_cell BK284.out 3).trans rfl, ((HB.out.cell (World.block_lt_of_cell? w _ hw287_0)).trans hw287_0), ((HB.out.cell (World.block_lt_of_cell? w _ hw287_1)).trans hw287_1), ((HB.out.cell (World.block_lt_of_cell? w _ hw287_2)).trans hw287_2), ((HB.out.cell (World.block_lt_of_cell? w _ hw287_3)).trans hw287_3), ((HB.out.cell (World.block_lt_of_cell? w _ hw287_4)).trans hw287_4)⟩ (fun hHeld => ?_)
                      clear hK K
                      refine norm_ (a' := ?_) ?_ ?_
                      rotate_left
                      · show Act.put _ (some 10) _ = _
                        simp only [Act.put, List.setIfInBounds_toArray, List.set_cons_zero, List.set_cons_succ, i64_w, i32_w]
                        rfl
                      refine one_ (i := 7) (N := some 42) #[true, true, true, true, true, true, true, true, false, false, false, true, false, false] rfl rfl (one_of HT_.out (by kernel_rfl)) (by decide) (fun K hK => ?_)
                      refine goes_ Tryd.func107 (by kernel_rfl) rfl #[.slice A287_2 ((rd_T43 l0 x9_1).f2).length c287_2, .string a1_0] (by rfl) rfl rfl (by (try simp only [List.map_toArray, List.map_cons, List.map_nil]); first | done | rfl | (simp only [List.length_drop, List.length_take]; rfl)) ?_
                      with_reducible refine (cachepotref1_BatchFind.calls k1 _ _ ((rd_T43 l0 x9_1).f2) a1_0 t288 t289 t290 false _ ?side1 ?side2 A16.out).mono ?_
                      (case side1 => repeat (first | exact (Kd.C_below HR287_2.out HB.out) | (with_reducible refine Kd.C_alloc ?_ _) | (with_reducible refine Kd.C_drewN ?_ _) | (with_reducible refine Kd.C_drew ?_)))
                      (case side2 => exact HC287_2.out)
                      rintro e w42 ⟨rfl, hb⟩
                      refine ⟨_, rfl, ?_⟩
                      have n0_ := Aside0.mk (blk_below (g := gb284) (o := .cells #[.string a1_0, .bool false, .string a1_2, .int .u32 a1_3] 98 (0, 0)) (by (with_reducible repeat (first | refine blk_drewN ?_ _ | refine blk_drew ?_ | refine blk_alloc ?_ _)); exact BK284.out) hb)
                      have n1_ := Aside0.mk (blk_below (g := gb292) (o := .cells #[.string (⟨#[]⟩ : ByteArray), .bool false, .string (⟨#[]⟩ : ByteArray)] 101 (0, 0)) (by (with_reducible repeat (first | refine blk_drewN ?_ _ | refine blk_drew ?_ | refine blk_alloc ?_ _)); exact BK292.out) hb)
                      have n2_ := Aside0.mk (below_step (by repeat (first | (with_reducible first | exact HB.out | apply below_alloc | apply pw_below_drewN | apply below_drew1 | refine below_set ?_ GE284.out | refine below_set ?_ GE292.out) | exact HB.out)) hb)
                      clear BK284
                      clear BK292
                      clear HB
                      have BK284 := n0_
                      have BK292 := n1_
                      have HB := n2_
                      clear n0_ n1_ n2_
                      (try clear hb)
                      (try clear hb2)
                      (try clear hk)
                      (try clear hi)
                      refine hK.out _ _ ⟨(blk_cell BK284.out 0).trans rfl, (blk_cell BK284.out 1).trans rfl, (blk_cell BK284.out 2).trans rfl, (blk_cell BK284.out 3).trans rfl, ((HB.out.cell (World.block_lt_of_cell? w _ hw287_0)).trans hw287_0), ((HB.out.cell (World.block_lt_of_cell? w _ hw287_1)).trans hw287_1), ((HB.out.cell (World.block_lt_of_cell? w _ hw287_2)).trans hw287_2), ((HB.out.cell (World.block_lt_of_cell? w _ hw287_3)).trans hw287_3), ((HB.out.cell (World.block_lt_of_cell? w _ hw287_4)).trans hw287_4)⟩ (fun hHeld => ?_)
                      clear hK K
                      refine norm_ (a' := ?_) ?_ ?_
                      rotate_left
                      · show Act.put _ (some 42) _ = _
                        simp only [Act.put, List.setIfInBounds_toArray, List.set_cons_zero, List.set_cons_succ, i64_w, i32_w]
                        rfl
                      refine pure_ (i := 8) (N := some 34) (v := ?_) (a' := ?_) #[true, true, true, true, true, true, true, true, true, false, false, true, false, false] rfl rfl (any_of HT_.out (by kernel_rfl)) (fun _ _ _ h => h) (Or.inl ⟨by rfl, ?_⟩) ?_ ?_
                      rotate_left
                      · intro w'
                        go_simp
                        with_reducible rfl
                      rotate_left
                      · simp only [Act.put, List.setIfInBounds_toArray, List.set_cons_zero, List.set_cons_succ, i64_w, i32_w]
                        rfl
                      refine pure_ (i := 9) (N := some 43) (v := ?_) (a' := ?_) #[true, true, true, true, true, true, true, true, true, true, false, true, false, false] rfl rfl (any_of HT_.out (by kernel_rfl)) (fun _ _ _ h => h) (Or.inl ⟨by rfl, ?_⟩) ?_ ?_
                      rotate_left
                      · intro w'
                        go_simp
                        with_reducible rfl
                      rotate_left
                      · simp only [Act.put, List.setIfInBounds_toArray, List.set_cons_zero, List.set_cons_succ, i64_w, i32_w]
                        rfl
                      refine pure_ (i := 10) (N := some 44) (v := ?_) (a' := ?_) #[true, true, true, true, true, true, true, true, true, true, true, true, false, false] rfl rfl (any_of HT_.out (by kernel_rfl)) (fun _ _ _ h => h) (Or.inl ⟨by rfl, ?_⟩) ?_ ?_
                      rotate_left
                      · intro w'
                        go_simp
                        with_reducible rfl
                      rotate_left
                      · simp only [Act.put, List.setIfInBounds_toArray, List.set_cons_zero, List.set_cons_succ, i64_w, i32_w]
                        rfl
                      exact norm_ (by simp only [putAll, Act.put, List.setIfInBounds_toArray, List.set_cons_zero, List.set_cons_succ]) (hCont (gb292) _ ⟨hHeld, (by (with_reducible repeat (first | refine blk_drewN ?_ _ | refine blk_drew ?_ | refine blk_alloc ?_ _)); exact BK284.out), (by (with_reducible repeat (first | refine blk_drewN ?_ _ | refine blk_drew ?_ | refine blk_alloc ?_ _)); exact BK292.out), GW292.out, GE292.out, NB284_292.out, NB292_284.out, (by repeat (first | (with_reducible first | exact HB.out | apply below_alloc | apply pw_below_drewN | apply below_drew1 | refine below_set ?_ GE284.out | refine below_set ?_ GE292.out) | exact HB.out))⟩)
                  rintro gb292 w43 ⟨hS_, h0_, h1_, h2_, h3_, h4_, h5_, h6_⟩
                  have n0_ : Aside0 (w43.heap[gb284]? = some (.cells #[.string a1_0, .bool false, .string a1_2, .int .u32 a1_3] 98 (0, 0))) := ⟨h0_⟩
                  have n1_ : Aside0 (w43.heap[gb292]? = some (.cells #[.string (⟨#[]⟩ : ByteArray), .bool false, .string (⟨#[]⟩ : ByteArray)] 101 (0, 0))) := ⟨h1_⟩
                  have n2_ : Aside0 (w.heap.size ≤ gb292) := ⟨h2_⟩
                  have n3_ : Aside0 (w.heap.size ≤ gb292) := ⟨h3_⟩
                  have n4_ : Aside0 (gb284 ≠ gb292) := ⟨h4_⟩
                  have n5_ : Aside0 (gb292 ≠ gb284) := ⟨h5_⟩
                  have n6_ : Aside0 (Below w.heap.size w w43) := ⟨h6_⟩
                  clear BK284
                  clear HB
                  clear h0_ h1_ h2_ h3_ h4_ h5_ h6_
                  have BK284 := n0_
                  have BK292 := n1_
                  have GW292 := n2_
                  have GE292 := n3_
                  have NB284_292 := n4_
                  have NB292_284 := n5_
                  have HB := n6_
                  clear n0_ n1_ n2_ n3_ n4_ n5_ n6_
                  have hHeld : w43.cell? ⟨gb284, 0, none⟩ = some (.string a1_0) ∧ w43.cell? ⟨gb284, 1, none⟩ = some (.bool false) ∧ w43.cell? ⟨gb284, 2, none⟩ = some (.string a1_2) ∧ w43.cell? ⟨gb284, 3, none⟩ = some (.int .u32 a1_3) ∧ w43.cell? (ad285.add ((x9_1).toNat * 5)) = some (.int .i64 ((rd_T43 l0 x9_1).f0)) ∧ w43.cell? ⟨(ad285.add ((x9_1).toNat * 5)).block, (ad285.add ((x9_1).toNat * 5)).off + 1, none⟩ = some (.int .u32 ((rd_T43 l0 x9_1).f1)) ∧ w43.cell? ⟨(ad285.add ((x9_1).toNat * 5)).block, (ad285.add ((x9_1).toNat * 5)).off + 2, none⟩ = some (.slice A287_2 ((rd_T43 l0 x9_1).f2).length c287_2) ∧ w43.cell? ⟨(ad285.add ((x9_1).toNat * 5)).block, (ad285.add ((x9_1).toNat * 5)).off + 3, none⟩ = some (.slice A287_3 ((rd_T43 l0 x9_1).f3).length c287_3) ∧ w43.cell? ⟨(ad285.add ((x9_1).toNat * 5)).block, (ad285.add ((x9_1).toNat * 5)).off + 4, none⟩ = some (.slice A287_4 ((rd_T43 l0 x9_1).f4).length c287_4) := hS_
                  refine norm_ (a' := ?_) ?_ ?_
                  rotate_left
                  · simp only [putAll, Act.put, List.setIfInBounds_toArray, List.set_cons_zero, List.set_cons_succ]
                    rfl
                  refine one_ (i := 12) (N := none) #[true, true, true, true, true, true, true, true, true, true, true, true, true, false] rfl rfl (one_of HT_.out (by kernel_rfl)) (by decide) (fun K hK => ?_)
                  have hs44 : w43.cell? ⟨gb292, 0, none⟩ = some (.string (⟨#[]⟩ : ByteArray)) := (blk_cell BK292.out 0).trans rfl
                  have hfs44 := blk_frozen BK292.out 0
                  have hns44_0 := NB284_292.out
                  have hms44_0 := NB292_284.out
                  have hs45 : w43.cell? ⟨gb292, 1, none⟩ = some (.bool false) := (blk_cell BK292.out 1).trans rfl
                  have hfs45 := blk_frozen BK292.out 1
                  have hns45_0 := NB284_292.out
                  have hms45_0 := NB292_284.out
                  have hs46 : w43.cell? ⟨gb292, 2, none⟩ = some (.string (⟨#[]⟩ : ByteArray)) := (blk_cell BK292.out 2).trans rfl
                  have hfs46 := blk_frozen BK292.out 2
                  have hns46_0 := NB284_292.out
                  have hms46_0 := NB292_284.out
                  refine skip_ (w1 := ?_) (by rfl) rfl ?_ ?_
                  rotate_left
                  · go_simp
                    rfl
                  refine hK.out _ _ ⟨((cell_far (p := ⟨gb292, _, none⟩) NB284_292.out _).trans (((cell_far (p := ⟨gb292, _, none⟩) NB284_292.out _).trans (((cell_far (p := ⟨gb292, _, none⟩) NB284_292.out _).trans (hHeld.1)))))), ((cell_far (p := ⟨gb292, _, none⟩) NB284_292.out _).trans (((cell_far (p := ⟨gb292, _, none⟩) NB284_292.out _).trans (((cell_far (p := ⟨gb292, _, none⟩) NB284_292.out _).trans (hHeld.2.1)))))), ((cell_far (p := ⟨gb292, _, none⟩) NB284_292.out _).trans (((cell_far (p := ⟨gb292, _, none⟩) NB284_292.out _).trans (((cell_far (p := ⟨gb292, _, none⟩) NB284_292.out _).trans (hHeld.2.2.1)))))), ((cell_far (p := ⟨gb292, _, none⟩) NB284_292.out _).trans (((cell_far (p := ⟨gb292, _, none⟩) NB284_292.out _).trans (((cell_far (p := ⟨gb292, _, none⟩) NB284_292.out _).trans (hHeld.2.2.2.1)))))), ((cell_far (p := ⟨gb292, _, none⟩) (by first | exact Nat.ne_of_lt (Nat.lt_of_lt_of_le (by have := World.block_lt_of_cell? _ _ hw287_0; first | rwa [add_block] at this | exact this) GW292.out) | (rw [add_block]; exact Nat.ne_of_lt (Nat.lt_of_lt_of_le (by have := World.block_lt_of_cell? _ _ hw287_0; first | rwa [add_block] at this | exact this) GW292.out)) | (show (Addr.add _ _).block ≠ _; rw [add_block]; exact Nat.ne_of_lt (Nat.lt_of_lt_of_le (by have := World.block_lt_of_cell? _ _ hw287_0; first | rwa [add_block] at this | exact this) GW292.out)) | (dsimp only; exact Nat.ne_of_lt (Nat.lt_of_lt_of_le (by have := World.block_lt_of_cell? _ _ hw287_0; first | rwa [add_block] at this | exact this) GW292.out))) _).trans (((cell_far (p := ⟨gb292, _, none⟩) (by first | exact Nat.ne_of_lt (Nat.lt_of_lt_of_le (by have := World.block_lt_of_cell? _ _ hw287_0; first | rwa [add_block] at this | exact this) GW292.out) | (rw [add_block]; exact Nat.ne_of_lt (Nat.lt_of_lt_of_le (by have := World.block_lt_of_cell? _ _ hw287_0; first | rwa [add_block] at this | exact this) GW292.out)) | (show (Addr.add _ _).block ≠ _; rw [add_block]; exact Nat.ne_of_lt (Nat.lt_of_lt_of_le (by have := World.block_lt_of_cell? _ _ hw287_0; first | rwa [add_block] at this | exact this) GW292.out)) | (dsimp only; exact Nat.ne_of_lt (Nat.lt_of_lt_of_le (by have := World.block_lt_of_cell? _ _ hw287_0; first | rwa [add_block] at this | exact this) GW292.out))) _).trans (((cell_far (p := ⟨gb292, _, none⟩) (by first | exact Nat.ne_of_lt (Nat.lt_of_lt_of_le (by have := World.block_lt_of_cell? _ _ hw287_0; first | rwa [add_block] at this | exact this) GW292.out) | (rw [add_block]; exact Nat.ne_of_lt (Nat.lt_of_lt_of_le (by have := World.block_lt_of_cell? _ _ hw287_0; first | rwa [add_block] at this | exact this) GW292.out)) | (show (Addr.add _ _).block ≠ _; rw [add_block]; exact Nat.ne_of_lt (Nat.lt_of_lt_of_le (by have := World.block_lt_of_cell? _ _ hw287_0; first | rwa [add_block] at this | exact this) GW292.out)) | (dsimp only; exact Nat.ne_of_lt (Nat.lt_of_lt_of_le (by have := World.block_lt_of_cell? _ _ hw287_0; first | rwa [add_block] at this | exact this) GW292.out))) _).trans (hHeld.2.2.2.2.1)))))), ((cell_far (p := ⟨gb292, _, none⟩) (by first | exact Nat.ne_of_lt (Nat.lt_of_lt_of_le (by have := World.block_lt_of_cell? _ _ hw287_1; first | rwa [add_block] at this | exact this) GW292.out) | (rw [add_block]; exact Nat.ne_of_lt (Nat.lt_of_lt_of_le (by have := World.block_lt_of_cell? _ _ hw287_1; first | rwa [add_block] at this | exact this) GW292.out)) | (show (Addr.add _ _).block ≠ _; rw [add_block]; exact Nat.ne_of_lt (Nat.lt_of_lt_of_le (by have := World.block_lt_of_cell? _ _ hw287_1; first | rwa [add_block] at this | exact this) GW292.out)) | (dsimp only; exact Nat.ne_of_lt (Nat.lt_of_lt_of_le (by have := World.block_lt_of_cell? _ _ hw287_1; first | rwa [add_block] at this | exact this) GW292.out))) _).trans (((cell_far (p := ⟨gb292, _, none⟩) (by first | exact Nat.ne_of_lt (Nat.lt_of_lt_of_le (by have := World.block_lt_of_cell? _ _ hw287_1; first | rwa [add_block] at this | exact this) GW292.out) | (rw [add_block]; exact Nat.ne_of_lt (Nat.lt_of_lt_of_le (by have := World.block_lt_of_cell? _ _ hw287_1; first | rwa [add_block] at this | exact this) GW292.out)) | (show (Addr.add _ _).block ≠ _; rw [add_block]; exact Nat.ne_of_lt (Nat.lt_of_lt_of_le (by have := World.block_lt_of_cell? _ _ hw287_1; first | rwa [add_block] at this | exact this) GW292.out)) | (dsimp only; exact Nat.ne_of_lt (Nat.lt_of_lt_of_le (by have := World.block_lt_of_cell? _ _ hw287_1; first | rwa [add_block] at this | exact this) GW292.out))) _).trans (((cell_far (p := ⟨gb292, _, none⟩) (by first | exact Nat.ne_of_lt (Nat.lt_of_lt_of_le (by have := World.block_lt_of_cell? _ _ hw287_1; first | rwa [add_block] at this | exact this) GW292.out) | (rw [add_block]; exact Nat.ne_of_lt (Nat.lt_of_lt_of_le (by have := World.block_lt_of_cell? _ _ hw287_1; first | rwa [add_block] at this | exact this) GW292.out)) | (show (Addr.add _ _).block ≠ _; rw [add_block]; exact Nat.ne_of_lt (Nat.lt_of_lt_of_le (by have := World.block_lt_of_cell? _ _ hw287_1; first | rwa [add_block] at this | exact this) GW292.out)) | (dsimp only; exact Nat.ne_of_lt (Nat.lt_of_lt_of_le (by have := World.block_lt_of_cell? _ _ hw287_1; first | rwa [add_block] at this | exact this) GW292.out))) _).trans (hHeld.2.2.2.2.2.1)))))), ((cell_far (p := ⟨gb292, _, none⟩) (by first | exact Nat.ne_of_lt (Nat.lt_of_lt_of_le (by have := World.block_lt_of_cell? _ _ hw287_2; first | rwa [add_block] at this | exact this) GW292.out) | (rw [add_block]; exact Nat.ne_of_lt (Nat.lt_of_lt_of_le (by have := World.block_lt_of_cell? _ _ hw287_2; first | rwa [add_block] at this | exact this) GW292.out)) | (show (Addr.add _ _).block ≠ _; rw [add_block]; exact Nat.ne_of_lt (Nat.lt_of_lt_of_le (by have := World.block_lt_of_cell? _ _ hw287_2; first | rwa [add_block] at this | exact this) GW292.out)) | (dsimp only; exact Nat.ne_of_lt (Nat.lt_of_lt_of_le (by have := World.block_lt_of_cell? _ _ hw287_2; first | rwa [add_block] at this | exact this) GW292.out))) _).trans (((cell_far (p := ⟨gb292, _, none⟩) (by first | exact Nat.ne_of_lt (Nat.lt_of_lt_of_le (by have := World.block_lt_of_cell? _ _ hw287_2; first | rwa [add_block] at this | exact this) GW292.out) | (rw [add_block]; exact Nat.ne_of_lt (Nat.lt_of_lt_of_le (by have := World.block_lt_of_cell? _ _ hw287_2; first | rwa [add_block] at this | exact this) GW292.out)) | (show (Addr.add _ _).block ≠ _; rw [add_block]; exact Nat.ne_of_lt (Nat.lt_of_lt_of_le (by have := World.block_lt_of_cell? _ _ hw287_2; first | rwa [add_block] at this | exact this) GW292.out)) | (dsimp only; exact Nat.ne_of_lt (Nat.lt_of_lt_of_le (by have := World.block_lt_of_cell? _ _ hw287_2; first | rwa [add_block] at this | exact this) GW292.out))) _).trans (((cell_far (p := ⟨gb292, _, none⟩) (by first | exact Nat.ne_of_lt (Nat.lt_of_lt_of_le (by have := World.block_lt_of_cell? _ _ hw287_2; first | rwa [add_block] at this | exact this) GW292.out) | (rw [add_block]; exact Nat.ne_of_lt (Nat.lt_of_lt_of_le (by have := World.block_lt_of_cell? _ _ hw287_2; first | rwa [add_block] at this | exact this) GW292.out)) | (show (Addr.add _ _).block ≠ _; rw [add_block]; exact Nat.ne_of_lt (Nat.lt_of_lt_of_le (by have := World.block_lt_of_cell? _ _ hw287_2; first | rwa [add_block] at this | exact this) GW292.out)) | (dsimp only; exact Nat.ne_of_lt (Nat.lt_of_lt_of_le (by have := World.block_lt_of_cell? _ _ hw287_2; first | rwa [add_block] at this | exact this) GW292.out))) _).trans (hHeld.2.2.2.2.2.2.1)))))), ((cell_far (p := ⟨gb292, _, none⟩) (by first | exact Nat.ne_of_lt (Nat.lt_of_lt_of_le (by have := World.block_lt_of_cell? _ _ hw287_3; first | rwa [add_block] at this | exact this) GW292.out) | (rw [add_block]; exact Nat.ne_of_lt (Nat.lt_of_lt_of_le (by have := World.block_lt_of_cell? _ _ hw287_3; first | rwa [add_block] at this | exact this) GW292.out)) | (show (Addr.add _ _).block ≠ _; rw [add_block]; exact Nat.ne_of_lt (Nat.lt_of_lt_of_le (by have := World.block_lt_of_cell? _ _ hw287_3; first | rwa [add_block] at this | exact this) GW292.out)) | (dsimp only; exact Nat.ne_of_lt (Nat.lt_of_lt_of_le (by have := World.block_lt_of_cell? _ _ hw287_3; first | rwa [add_block] at this | exact this) GW292.out))) _).trans (((cell_far (p := ⟨gb292, _, none⟩) (by first | exact Nat.ne_of_lt (Nat.lt_of_lt_of_le (by have := World.block_lt_of_cell? _ _ hw287_3; first | rwa [add_block] at this | exact this) GW292.out) | (rw [add_block]; exact Nat.ne_of_lt (Nat.lt_of_lt_of_le (by have := World.block_lt_of_cell? _ _ hw287_3; first | rwa [add_block] at this | exact this) GW292.out)) | (show (Addr.add _ _).block ≠ _; rw [add_block]; exact Nat.ne_of_lt (Nat.lt_of_lt_of_le (by have := World.block_lt_of_cell? _ _ hw287_3; first | rwa [add_block] at this | exact this) GW292.out)) | (dsimp only; exact Nat.ne_of_lt (Nat.lt_of_lt_of_le (by have := World.block_lt_of_cell? _ _ hw287_3; first | rwa [add_block] at this | exact this) GW292.out))) _).trans (((cell_far (p := ⟨gb292, _, none⟩) (by first | exact Nat.ne_of_lt (Nat.lt_of_lt_of_le (by have := World.block_lt_of_cell? _ _ hw287_3; first | rwa [add_block] at this | exact this) GW292.out) | (rw [add_block]; exact Nat.ne_of_lt (Nat.lt_of_lt_of_le (by have := World.block_lt_of_cell? _ _ hw287_3; first | rwa [add_block] at this | exact this) GW292.out)) | (show (Addr.add _ _).block ≠ _; rw [add_block]; exact Nat.ne_of_lt (Nat.lt_of_lt_of_le (by have := World.block_lt_of_cell? _ _ hw287_3; first | rwa [add_block] at this | exact this) GW292.out)) | (dsimp only; exact Nat.ne_of_lt (Nat.lt_of_lt_of_le (by have := World.block_lt_of_cell? _ _ hw287_3; first | rwa [add_block] at this | exact this) GW292.out))) _).trans (hHeld.2.2.2.2.2.2.2.1)))))), ((cell_far (p := ⟨gb292, _, none⟩) (by first | exact Nat.ne_of_lt (Nat.lt_of_lt_of_le (by have := World.block_lt_of_cell? _ _ hw287_4; first | rwa [add_block] at this | exact this) GW292.out) | (rw [add_block]; exact Nat.ne_of_lt (Nat.lt_of_lt_of_le (by have := World.block_lt_of_cell? _ _ hw287_4; first | rwa [add_block] at this | exact this) GW292.out)) | (show (Addr.add _ _).block ≠ _; rw [add_block]; exact Nat.ne_of_lt (Nat.lt_of_lt_of_le (by have := World.block_lt_of_cell? _ _ hw287_4; first | rwa [add_block] at this | exact this) GW292.out)) | (dsimp only; exact Nat.ne_of_lt (Nat.lt_of_lt_of_le (by have := World.block_lt_of_cell? _ _ hw287_4; first | rwa [add_block] at this | exact this) GW292.out))) _).trans (((cell_far (p := ⟨gb292, _, none⟩) (by first | exact Nat.ne_of_lt (Nat.lt_of_lt_of_le (by have := World.block_lt_of_cell? _ _ hw287_4; first | rwa [add_block] at this | exact this) GW292.out) | (rw [add_block]; exact Nat.ne_of_lt (Nat.lt_of_lt_of_le (by have := World.block_lt_of_cell? _ _ hw287_4; first | rwa [add_block] at this | exact this) GW292.out)) | (show (Addr.add _ _).block ≠ _; rw [add_block]; exact Nat.ne_of_lt (Nat.lt_of_lt_of_le (by have := World.block_lt_of_cell? _ _ hw287_4; first | rwa [add_block] at this | exact this) GW292.out)) | (dsimp only; exact Nat.ne_of_lt (Nat.lt_of_lt_of_le (by have := World.block_lt_of_cell? _ _ hw287_4; first | rwa [add_block] at this | exact this) GW292.out))) _).trans (((cell_far (p := ⟨gb292, _, none⟩) (by first | exact Nat.ne_of_lt (Nat.lt_of_lt_of_le (by have := World.block_lt_of_cell? _ _ hw287_4; first | rwa [add_block] at this | exact this) GW292.out) | (rw [add_block]; exact Nat.ne_of_lt (Nat.lt_of_lt_of_le (by have := World.block_lt_of_cell? _ _ hw287_4; first | rwa [add_block] at this | exact this) GW292.out)) | (show (Addr.add _ _).block ≠ _; rw [add_block]; exact Nat.ne_of_lt (Nat.lt_of_lt_of_le (by have := World.block_lt_of_cell? _ _ hw287_4; first | rwa [add_block] at this | exact this) GW292.out)) | (dsimp only; exact Nat.ne_of_lt (Nat.lt_of_lt_of_le (by have := World.block_lt_of_cell? _ _ hw287_4; first | rwa [add_block] at this | exact this) GW292.out))) _).trans (hHeld.2.2.2.2.2.2.2.2))))))⟩ (fun hHeld => ?_)
                  clear hK K
                  refine pure_ (i := 13) (N := some 11) (v := ?_) (a' := ?_) #[true, true, true, true, true, true, true, true, true, true, true, true, true, true] rfl rfl (any_of HT_.out (by kernel_rfl)) (fun _ _ _ h => h) (Or.inl ⟨by rfl, ?_⟩) ?_ ?_
                  rotate_left
                  · intro w'
                    go_simp
                    with_reducible rfl
                  rotate_left
                  · simp only [Act.put, List.setIfInBounds_toArray, List.set_cons_zero, List.set_cons_succ, i64_w, i32_w]
                    rfl
                  refine done_ (done_of HT_.out (by kernel_rfl)) ?_
                  try go_wp2
                  go_roundg k1
                  case measure => have := HK1.out; omega
                  case rel => exact ⟨(wrap64 (x9_1 + 1)), (by first | rfl | (simp; done) | (simp [*]; done)), H', ⟨by have := HK1.out; omega⟩, ⟨by (with_reducible repeat (first | refine blk_drewN ?_ _ | refine blk_drew ?_ | refine blk_alloc ?_ _)); refine blk_far ?_ NB284_292.out _; (with_reducible repeat (first | refine blk_drewN ?_ _ | refine blk_drew ?_ | refine blk_alloc ?_ _)); refine blk_far ?_ NB284_292.out _; (with_reducible repeat (first | refine blk_drewN ?_ _ | refine blk_drew ?_ | refine blk_alloc ?_ _)); refine blk_far ?_ NB284_292.out _; (with_reducible repeat (first | refine blk_drewN ?_ _ | refine blk_drew ?_ | refine blk_alloc ?_ _)); exact BK284.out⟩, ⟨by repeat (first | (with_reducible first | exact HB.out | apply below_alloc | apply pw_below_drewN | apply below_drew1 | refine below_set ?_ GE284.out | refine below_set ?_ GE292.out) | exact HB.out)⟩⟩
            · rw [if_neg c9] at H
              have c9b0 : (((rd_T43 l0 x9_1).f0) == 1) = false := beq_eq_false_iff_ne.mpr c9
              have c9b1 : (((rd_T43 l0 x9_1).f0) != 1) = true := bne_iff_ne.mpr c9
              have H' := Aside0.mk H
              clear H
              have p285 : 0 ≤ (x9_1 : Int) := of_decide_eq_true (by first | (with_reducible assumption) | assumption)
              have q285 : x9_1 < (l0.length : Int) := of_decide_eq_true (by first | (with_reducible assumption) | assumption)
              obtain ⟨ad285, A285_2, c285_2, A285_3, c285_3, A285_4, c285_4, e285, hx285_0, hx285_1, hx285_2, hx285_3, hx285_4, hl285_2, hi285_2, hl285_3, hi285_3, hl285_4, hi285_4⟩ := at_T43 HR0.out x9_1 p285 q285
              cases e285
              replace hx285_0 := (HB.out.cell (World.block_lt_of_cell? w _ hx285_0)).trans hx285_0
              replace hx285_1 := (HB.out.cell (World.block_lt_of_cell? w _ hx285_1)).trans hx285_1
              replace hx285_2 := (HB.out.cell (World.block_lt_of_cell? w _ hx285_2)).trans hx285_2
              replace hx285_3 := (HB.out.cell (World.block_lt_of_cell? w _ hx285_3)).trans hx285_3
              replace hx285_4 := (HB.out.cell (World.block_lt_of_cell? w _ hx285_4)).trans hx285_4
              have HR285_2 := Aside0.mk hi285_2
              have HC285_2 := Aside0.mk hl285_2
              clear hi285_2 hl285_2
              have HR285_3 := Aside0.mk hi285_3
              have HC285_3 := Aside0.mk hl285_3
              clear hi285_3 hl285_3
              have HR285_4 := Aside0.mk hi285_4
              have HC285_4 := Aside0.mk hl285_4
              clear hi285_4 hl285_4
              replace p285 := eq_true p285
              replace q285 := eq_true q285
              go_wp2
              go_roundg k1
              case measure => have := HK1.out; omega
              case rel => exact ⟨(wrap64 (x9_1 + 1)), (by first | rfl | (simp; done) | (simp [*]; done)), H', ⟨by have := HK1.out; omega⟩, ⟨by (with_reducible repeat (first | refine blk_drewN ?_ _ | refine blk_drew ?_ | refine blk_alloc ?_ _)); exact BK284.out⟩, ⟨by repeat (first | (with_reducible first | exact HB.out | apply below_alloc | apply pw_below_drewN | apply below_drew1 | refine below_set ?_ GE284.out) | exact HB.out)⟩⟩
          · rw [if_neg c8] at H
            exact absurd H (by simp)
        · rw [if_neg c7] at H
          exact absurd H (by simp)
      · rw [if_neg c6] at H
        have c6b0 : decide (x9_1 < a3) = false := decide_eq_false c6
        clear c6
        obtain rfl := Option.some.inj H
        go_wp2
        go_ret
        exact ⟨by first | rfl | (simp [errW_none, errW_some] <;> rfl) | (simp [*, errW_none, errW_some] <;> rfl), by repeat (first | (with_reducible first | exact HB.out | apply below_alloc | apply pw_below_drewN | apply below_drew1 | refine below_set ?_ GE284.out) | exact HB.out)⟩
end Go.Proofs.YtfaelejeihmgcaaDoor.Lgx
end

section
namespace Go.Proofs.YtfaelejeihmgcaaDoor.Lgx
open Go.RowKit Go.Proofs.YtfaelejeihmgcaaDoorW.PrintWords Go.Proofs.YtfaelejeihmgcaaDoorW.PrintLast Go.Proofs.YtfaelejeihmgcaaDoorW.PrintMore
attribute [local go_sem] max2_int min2_int max_two min_two max_three min_three max_four min_four   -- for this text's walks alone
set_option linter.unusedVariables false
set_option linter.unusedSimpArgs false
def cachepotbook_Pick.f (a0 : Int) (a1 : Int) : Option (Int) := if a1 = 0 then (none) else (if (Int.tmod a0 a1) < 0 then (some (wrap64 ((Int.tmod a0 a1) + a1))) else (some (Int.tmod a0 a1)))
set_option maxHeartbeats 8000000 in
set_option maxRecDepth 100000 in
theorem cachepotbook_Pick.calls (a0 : Int) (a1 : Int) (r : Int) (w : World) (h : cachepotbook_Pick.f a0 a1 = some r) :
    Calls Tryd.prog 25 #[.int .i64 a0, .int .i64 a1] w fun e w' => e = .returned (.int .i64 r) ∧ Drawn0 w w' := by
  have H : (if a1 = 0 then (none) else (if (Int.tmod a0 a1) < 0 then (some (wrap64 ((Int.tmod a0 a1) + a1))) else (some (Int.tmod a0 a1)))) = some r := h
  clear h
  by_cases c3 : a1 = 0
  · rw [if_pos c3] at H
    exact absurd H (by simp)
  · rw [if_neg c3] at H
    have c3b0 : (a1 == 0) = false := beq_eq_false_iff_ne.mpr c3
    have c3b1 : (a1 != 0) = true := bne_iff_ne.mpr c3
    by_cases c4 : (Int.tmod a0 a1) < 0
    · rw [if_pos c4] at H
      have c4b0 : decide ((Int.tmod a0 a1) < 0) = true := decide_eq_true c4
      clear c4
      obtain rfl := Option.some.inj H
      go_enter Tryd.func25, Tryd.ntmps25
      go_wp2
      go_ret
      exact ⟨by first | rfl | (simp; done) | (simp [*]; done), by repeat (first | exact Drawn0.refl _ | apply Drawn0.step)⟩
    · rw [if_neg c4] at H
      have c4b0 : decide ((Int.tmod a0 a1) < 0) = false := decide_eq_false c4
      clear c4
      obtain rfl := Option.some.inj H
      go_enter Tryd.func25, Tryd.ntmps25
      go_wp2
      go_ret
      exact ⟨by first | rfl | (simp; done) | (simp [*]; done), by repeat (first | exact Drawn0.refl _ | apply Drawn0.step)⟩
def cachepotbook_Short.f (a0 : ByteArray) (a1 : Int) : Option (ByteArray) := if 0 ≤ (mn (a0.size : Int) a1) then (if (mn (a0.size : Int) a1) ≤ (a0.size : Int) then (some (a0.extract 0 ((mn (a0.size : Int) a1) : Int).toNat)) else (none)) else (none)
set_option maxHeartbeats 8000000 in
set_option maxRecDepth 100000 in
theorem cachepotbook_Short.calls (a0 : ByteArray) (a1 : Int) (r : ByteArray) (w : World) (h : cachepotbook_Short.f a0 a1 = some r) :
    Calls Tryd.prog 27 #[.string a0, .int .i64 a1] w fun e w' => e = .returned (.string r) ∧ Below w.heap.size w w' := by
  have HB := Aside0.mk (Below.refl w.heap.size w)
  have H : (if 0 ≤ (mn (a0.size : Int) a1) then (if (mn (a0.size : Int) a1) ≤ (a0.size : Int) then (some (a0.extract 0 ((mn (a0.size : Int) a1) : Int).toNat)) else (none)) else (none)) = some r := h
  clear h
  obtain ⟨ji3, hji3⟩ : ∃ j_ : Int, (mn (a0.size : Int) a1) = j_ := ⟨_, rfl⟩
  replace H : (if 0 ≤ (ji3) then (if (ji3) ≤ (a0.size : Int) then (some (a0.extract 0 ((ji3) : Int).toNat)) else (none)) else (none)) = some r := by first | (rw [hji3] at H; exact H) | (simp only [hji3] at H ⊢; exact H)
  have hji3_ : (if a1 < (a0.size : Int) then a1 else (a0.size : Int)) = ji3 := hji3
  by_cases c4 : 0 ≤ (ji3)
  · rw [if_pos c4] at H
    have c4b0 := eq_true c4
    have c4b1 : decide (0 ≤ (ji3)) = true := decide_eq_true c4
    clear c4
    by_cases c5 : (ji3) ≤ (a0.size : Int)
    · rw [if_pos c5] at H
      have c5b0 := eq_true c5
      have c5b1 : decide ((ji3) ≤ (a0.size : Int)) = true := decide_eq_true c5
      clear c5
      obtain rfl := Option.some.inj H
      go_enter Tryd.func27, Tryd.ntmps27
      go_wp2
      go_ret
      exact ⟨by first | rfl | (simp [errW_none, errW_some] <;> rfl) | (simp only [← hji3]; first | rfl | (simp [errW_none, errW_some] <;> rfl)) | (simp [*, errW_none, errW_some] <;> rfl), by repeat (first | (with_reducible first | exact HB.out | apply below_alloc | apply pw_below_drewN | apply below_drew1) | exact HB.out)⟩
    · rw [if_neg c5] at H
      exact absurd H (by simp)
  · rw [if_neg c4] at H
    exact absurd H (by simp)
def cachepotbook_Texts.l0 : Nat → List ByteArray → Int → Int → List ByteArray → Int → Option (List ByteArray)
  | 0, _, _, _, _, _ => none
  | k + 1, x0, x1, x2, x7, x8 => if x8 < (x0.length : Int) then (if x8 < x1 then (if 0 ≤ x8 then ((cachepotbook_Short.f (rdOf ByteArray.empty x0 x8) x2).bind fun t179 => (if x7.length < 8796093022208 then (cachepotbook_Texts.l0 k x0 x1 x2 (x7 ++ [t179]) (wrap64 (x8 + 1))) else (none))) else (none)) else (some x7)) else (some x7)
def cachepotbook_Texts.f (k : Nat) (l0 : List ByteArray) (a1 : Int) (a2 : Int) : Option (List ByteArray) := cachepotbook_Texts.l0 k l0 a1 a2 ([] : List ByteArray) 0
set_option maxHeartbeats 8000000 in
set_option maxRecDepth 100000 in
theorem cachepotbook_Texts.calls (k : Nat) (A0 : Option Addr) (c0 : Nat) (l0 : List ByteArray) (a1 : Int) (a2 : Int) (r : List ByteArray) (w : World) (hr0 : Kd.C Kd.string w A0 l0.length l0) (hc0 : l0.length ≤ c0) (h : cachepotbook_Texts.f k l0 a1 a2 = some r) :
    Calls Tryd.prog 24 #[.slice A0 l0.length c0, .int .i64 a1, .int .i64 a2] w fun e w' => ∃ v0_ : Value, e = .returned (v0_) ∧ Kd.R Kd.string 9 w' w.heap.size (fun _ => True) v0_ r ∧ Below w.heap.size w w' := by
  have HR0 := Aside0.mk hr0
  have HC0 := Aside0.mk hc0
  clear hr0 hc0
  have HB := Aside0.mk (Below.refl w.heap.size w)
  have H : (cachepotbook_Texts.l0 k l0 a1 a2 ([] : List ByteArray) 0) = some r := h
  clear h
  have H' := Aside0.mk H
  clear H
  go_enter Tryd.func24, Tryd.ntmps24
  go_wp2
  go_loopg [7, 8] k (fun kq v7 v8 w' => ∃ (x7_1 : List ByteArray) (x8_1 : Int), v8 = .int .i64 x8_1 ∧ Aside0 (cachepotbook_Texts.l0 kq l0 a1 a2 x7_1 x8_1 = some r) ∧ Aside0 (kq ≤ k) ∧ Aside0 (Kd.R Kd.string 9 w' w.heap.size (fun _ => True) v7 x7_1) ∧ Aside0 (Below w.heap.size w w'))
  case atStart => exact ⟨(([] : List ByteArray)), (0), (by first | rfl | (simp; done) | (simp [*]; done)), H', ⟨Nat.le_refl _⟩, ⟨by first | exact Kd.R_nil _ _ _ _ _ | exact Kd.N_nil _ _ _ _ _ | exact Kd.V_nil _ _ _ _ _ | exact Kd.Q_nil _ _ _ _ _ | exact Kd.S_nil _ _ _ _ _⟩, ⟨by repeat (first | (with_reducible first | exact HB.out | apply below_alloc | apply pw_below_drewN | apply below_drew1) | exact HB.out)⟩⟩
  case round =>
    clear H'
    try clear c2
    try clear p2
    obtain ⟨x7_1, x8_1, rfl, HA, HK1, HO_7, HB⟩ := hrel
    cases gk with
    | zero => exact absurd HA.out (by simp [cachepotbook_Texts.l0])
    | succ k1 =>
      have H := HA.out
      clear HA
      simp only [cachepotbook_Texts.l0] at H
      by_cases c4 : x8_1 < (l0.length : Int)
      · rw [if_pos c4] at H
        have c4b0 : decide (x8_1 < (l0.length : Int)) = true := decide_eq_true c4
        clear c4
        by_cases c5 : x8_1 < a1
        · rw [if_pos c5] at H
          have c5b0 : decide (x8_1 < a1) = true := decide_eq_true c5
          clear c5
          by_cases c6 : 0 ≤ x8_1
          · rw [if_pos c6] at H
            have c6b0 : decide (0 ≤ x8_1) = true := decide_eq_true c6
            clear c6
            replace H := Option.bind_eq_some_iff.mp H
            obtain ⟨t179, A70, H⟩ := H
            replace H : (if x7_1.length < 8796093022208 then (cachepotbook_Texts.l0 k1 l0 a1 a2 (x7_1 ++ [t179]) (wrap64 (x8_1 + 1))) else (none)) = some r := H
            have A7 := Aside0.mk A70
            clear A70
            by_cases c8 : x7_1.length < 8796093022208
            · rw [if_pos c8] at H
              have LMc8 := Aside0.mk c8
              clear c8
              obtain ⟨y180, hy180⟩ : ∃ y_ : List ByteArray, y_ = (x7_1 ++ [t179]) := ⟨_, rfl⟩
              replace H : (cachepotbook_Texts.l0 k1 l0 a1 a2 y180 (wrap64 (x8_1 + 1))) = some r := by first | (rw [hy180]; with_reducible exact H) | (have H2_ := (Option.bind_some _ _).symm.trans H; rw [hy180]; with_reducible exact H2_) | (have H2_ := (Option.bind_some _ _).symm.trans H; with_reducible exact H2_) | with_reducible exact H | (rw [hy180]; exact H) | exact H
              have Ny180 := Aside0.mk hy180
              clear hy180
              have H' := Aside0.mk H
              clear H
              have p178 : 0 ≤ (x8_1 : Int) := of_decide_eq_true (by first | (with_reducible assumption) | assumption)
              have q178 : x8_1 < (l0.length : Int) := of_decide_eq_true (by first | (with_reducible assumption) | assumption)
              obtain ⟨ad178, e178, hx178_0⟩ := Kd.at_string HR0.out x8_1 p178 q178
              cases e178
              replace hx178_0 := (HB.out.cell (World.block_lt_of_cell? w _ hx178_0)).trans hx178_0
              replace p178 := eq_true p178
              replace q178 := eq_true q178
              go_wp2_with (first | ((with_reducible refine gate_callee (f := 27) rfl ?_); refine goesL_ (some 26) rfl rfl Tryd.func27 (by kernel_rfl) rfl #[.string (rdOf ByteArray.empty l0 x8_1), .int .i64 a2] rfl (by (try simp only [List.map_toArray, List.map_cons, List.map_nil]); first | done | rfl | (simp only [List.length_drop, List.length_take]; rfl)) ?_; (with_reducible refine (cachepotbook_Short.calls (rdOf ByteArray.empty l0 x8_1) a2 t179 _ A7.out).mono ?_); rintro e w9 ⟨rfl, hb⟩; refine ⟨_, rfl, ?_⟩; have n0_ := Aside0.mk (Kd.R_below (by (with_reducible repeat (first | apply Kd.R_alloc | apply Kd.R_drewN | apply Kd.R_drew)); exact HO_7.out) hb); have n1_ := Aside0.mk (below_step (by repeat (first | (with_reducible first | exact HB.out | apply below_alloc | apply pw_below_drewN | apply below_drew1) | exact HB.out)) hb); clear HO_7; clear HB; have HO_7 := n0_; have HB := n1_; clear n0_ n1_; (try clear hb); (try clear hb2); (try clear hk); (try clear hi)) | ((with_reducible refine gate_builtin (b := .append) (xs := #[.tmp 20, .tmp 27]) rfl ?_); at_builtin; refine Kd.R_append Kd.string (w0 := w) w.heap.size rfl (.tmp 20) (.tmp 27) 22 9 (.string ⟨#[]⟩) 16 rfl Tryd.underlying22 info9 rfl (by decide) (by omega) u7 x7_1 t179 [.string t179] (fun _ => True) (fun _ => False) rfl rfl ?aP (fun _ hk => hk.elim) ?aF ?aO ?aB ?aS ?aL ?_; (case aP => exact rfl); (case aB => exact (by repeat (first | (with_reducible first | exact HB.out | apply below_alloc | apply pw_below_drewN | apply below_drew1) | exact HB.out))); (case aF => exact (fun _ _ => trivial)); (case aO => exact (by (with_reducible repeat (first | apply Kd.R_alloc | apply Kd.R_drewN | apply Kd.R_drew)); exact HO_7.out)); (case aS => exact (below_size (by repeat (first | (with_reducible first | exact HB.out | apply below_alloc | apply pw_below_drewN | apply below_drew1) | exact HB.out)))); (case aL => have := LMc8.out; omega); intro v181 w10 ho hb hg hat; rw [← Ny180.out] at ho; have n0_ := Aside0.mk (hb); have n1_ := Aside0.mk (ho); clear HB; clear HO_7; have HB := n0_; have HO182 := n1_; clear n0_ n1_; clear ho hb hg hat))
              go_roundg k1
              case measure => have := HK1.out; omega
              case rel => exact ⟨(y180), (wrap64 (x8_1 + 1)), (by first | rfl | (simp; done) | (simp [*]; done)), H', ⟨by have := HK1.out; omega⟩, ⟨by (with_reducible repeat (first | apply Kd.R_alloc | apply Kd.R_drewN | apply Kd.R_drew)); exact HO182.out⟩, ⟨by repeat (first | (with_reducible first | exact HB.out | apply below_alloc | apply pw_below_drewN | apply below_drew1) | exact HB.out)⟩⟩
            · rw [if_neg c8] at H
              exact absurd H (by simp)
          · rw [if_neg c6] at H
            exact absurd H (by simp)
        · rw [if_neg c5] at H
          have c5b0 : decide (x8_1 < a1) = false := decide_eq_false c5
          clear c5
          obtain rfl := Option.some.inj H
          go_wp2
          go_ret
          exact ⟨_, by first | rfl | (simp [errW_none, errW_some] <;> rfl) | (simp [*, errW_none, errW_some] <;> rfl), by (with_reducible repeat (first | apply Kd.R_alloc | apply Kd.R_drewN | apply Kd.R_drew)); exact HO_7.out, by repeat (first | (with_reducible first | exact HB.out | apply below_alloc | apply pw_below_drewN | apply below_drew1) | exact HB.out)⟩
      · rw [if_neg c4] at H
        have c4b0 : decide (x8_1 < (l0.length : Int)) = false := decide_eq_false c4
        clear c4
        obtain rfl := Option.some.inj H
        go_wp2
        go_ret
        exact ⟨_, by first | rfl | (simp [errW_none, errW_some] <;> rfl) | (simp [*, errW_none, errW_some] <;> rfl), by (with_reducible repeat (first | apply Kd.R_alloc | apply Kd.R_drewN | apply Kd.R_drew)); exact HO_7.out, by repeat (first | (with_reducible first | exact HB.out | apply below_alloc | apply pw_below_drewN | apply below_drew1) | exact HB.out)⟩
mutual
def cachepotbook_Writes.l0 : Nat → List (S101) → Int → List (S101) → Int → Option ((List (S101)))
  | 0, _, _, _, _ => none
  | k + 1, x0, x1, x5, x6 => if x6 < (x0.length : Int) then (cachepotbook_Writes.j1 k x0 x1 x5 x6 (decide (x6 < x1))) else (cachepotbook_Writes.j1 k x0 x1 x5 x6 false)
def cachepotbook_Writes.j1 : Nat → List (S101) → Int → List (S101) → Int → Bool → Option ((List (S101)))
  | 0, _, _, _, _, _ => none
  | k + 1, x0, x1, x5, x6, x15 => if x15 = true then (if 0 ≤ x6 then (if x6 < (x0.length : Int) then ((cachepotbook_Short.f ((rd_T101 x0 x6).f0) 60).bind fun t184 => ((cachepotbook_Short.f ((rd_T101 x0 x6).f2) 60).bind fun t187 => (if x5.length < 3518437208883 then (cachepotbook_Writes.l0 k x0 x1 (x5 ++ [(⟨t184, (rd_T101 x0 x6).f1, t187⟩ : S101)]) (wrap64 (x6 + 1))) else (none)))) else (none)) else (none)) else (some x5)
end
def cachepotbook_Writes.f (k : Nat) (l0 : List (S101)) (a1 : Int) : Option ((List (S101))) := cachepotbook_Writes.l0 k l0 a1 ([] : List (S101)) 0
def cachepotbook_Writes.T5 : Bool × List (List Nat × List Nat) := (true, [([], []), ([], []), ([], []), ([1, 2], [1, 2]), ([3], [3]), ([4], [4]), ([5], [5]), ([], []), ([], []), ([7, 8], [7, 8]), ([9], [9]), ([10], [10]), ([], []), ([], []), ([12, 13], [12, 13]), ([14], [14]), ([15], [15]), ([16, 6], [16]), ([6, 11, 17], [6, 11, 17]), ([18], [18]), ([0, 19, 17], [0, 19]), ([20, 20, 0, 1, 2, 3, 4, 5, 6, 7, 8, 9, 10, 11, 12, 13, 14, 15, 16, 17, 18, 19, 20], [0, 20])])
def cachepotbook_Writes.B5 : List Nat := [0, 0, 0, 6, 14, 30, 62, 0, 0, 384, 896, 1920, 0, 0, 12288, 28672, 61440, 127102, 262142, 524286, 1048575, 2097151]
theorem cachepotbook_Writes.tab5 : rtab .any (opsOf Tryd.f78 5) = cachepotbook_Writes.T5 := by kernel_rfl
theorem cachepotbook_Writes.bits5 : waitsOk cachepotbook_Writes.T5.2 cachepotbook_Writes.B5 = true := by kernel_rfl
set_option maxHeartbeats 8000000 in
set_option maxRecDepth 100000 in
theorem cachepotbook_Writes.calls (k : Nat) (A0 : Option Addr) (c0 : Nat) (l0 : List (S101)) (a1 : Int) (r : List (S101)) (w : World) (hr0 : Kd.C k101 w A0 l0.length l0) (hc0 : l0.length ≤ c0) (h : cachepotbook_Writes.f k l0 a1 = some r) :
    Calls Tryd.prog 78 #[.slice A0 l0.length c0, .int .i64 a1] w fun e w' => ∃ v0_ : Value, e = .returned (v0_) ∧ Kd.R k101 101 w' w.heap.size (fun _ => True) v0_ r ∧ Below w.heap.size w w' := by
  have hu101 := Tryd.underlying101
  have HR0 := Aside0.mk hr0
  have HC0 := Aside0.mk hc0
  clear hr0 hc0
  have HB := Aside0.mk (Below.refl w.heap.size w)
  have H : (cachepotbook_Writes.l0 k l0 a1 ([] : List (S101)) 0) = some r := h
  clear h
  have H' := Aside0.mk H
  clear H
  go_enter Tryd.func78, Tryd.ntmps78
  go_wp2
  go_loopg [5, 6] k (fun kq v5 v6 w' => ∃ (x5_1 : List (S101)) (x6_1 : Int), v6 = .int .i64 x6_1 ∧ Aside0 (cachepotbook_Writes.l0 kq l0 a1 x5_1 x6_1 = some r) ∧ Aside0 (kq ≤ k) ∧ Aside0 (Kd.R k101 101 w' w.heap.size (fun _ => True) v5 x5_1) ∧ Aside0 (Below w.heap.size w w'))
  case atStart => exact ⟨(([] : List (S101))), (0), (by first | rfl | (simp; done) | (simp [*]; done)), H', ⟨Nat.le_refl _⟩, ⟨by first | exact Kd.R_nil _ _ _ _ _ | exact Kd.N_nil _ _ _ _ _ | exact Kd.V_nil _ _ _ _ _ | exact Kd.Q_nil _ _ _ _ _ | exact Kd.S_nil _ _ _ _ _⟩, ⟨by repeat (first | (with_reducible first | exact HB.out | apply below_alloc | apply pw_below_drewN | apply below_drew1) | exact HB.out)⟩⟩
  case round =>
    clear H'
    try clear p2
    obtain ⟨x5_1, x6_1, rfl, HA, HK1, HO_5, HB⟩ := hrel
    cases gk with
    | zero => exact absurd HA.out (by simp [cachepotbook_Writes.l0])
    | succ k1 =>
      have H := HA.out
      clear HA
      simp only [cachepotbook_Writes.l0] at H
      have HC3 := Aside0.mk H
      clear H
      go_upto_region 3 with (fail)
      go_cut [15] (fun v15 wc => ∃ (kq : Nat) (x15_2 : Bool), v15 = .bool x15_2 ∧ Aside0 (cachepotbook_Writes.j1 kq l0 a1 x5_1 x6_1 x15_2 = some r) ∧ Aside0 (kq ≤ k1) ∧ Aside0 (Kd.R k101 101 wc w.heap.size (fun _ => True) u5 x5_1) ∧ Aside0 (Below w.heap.size w wc))
      case first =>
        have H := HC3.out
        clear HC3
        by_cases c4 : x6_1 < (l0.length : Int)
        · rw [if_pos c4] at H
          have c4b0 : decide (x6_1 < (l0.length : Int)) = true := decide_eq_true c4
          clear c4
          (first | rw [c4b0] | (simp only [i64_w, i32_w]; rw [c4b0]) | skip)
          have H' := Aside0.mk H
          clear H
          go_wp2
          go_meet
          case rel => exact ⟨_, (decide (x6_1 < a1)), (by first | rfl | (simp; done) | (simp [*]; done)), H', ⟨by have := HK1.out; first | omega | exact Nat.le_refl _⟩, ⟨by (with_reducible repeat (first | apply Kd.R_alloc | apply Kd.R_drewN | apply Kd.R_drew)); exact HO_5.out⟩, ⟨by repeat (first | (with_reducible first | exact HB.out | apply below_alloc | apply pw_below_drewN | apply below_drew1) | exact HB.out)⟩⟩
        · rw [if_neg c4] at H
          have c4b0 : decide (x6_1 < (l0.length : Int)) = false := decide_eq_false c4
          clear c4
          (first | rw [c4b0] | (simp only [i64_w, i32_w]; rw [c4b0]) | skip)
          have H' := Aside0.mk H
          clear H
          go_wp2
          go_meet
          case rel => exact ⟨_, (false), (by first | rfl | (simp; done) | (simp [*]; done)), H', ⟨by have := HK1.out; first | omega | exact Nat.le_refl _⟩, ⟨by (with_reducible repeat (first | apply Kd.R_alloc | apply Kd.R_drewN | apply Kd.R_drew)); exact HO_5.out⟩, ⟨by repeat (first | (with_reducible first | exact HB.out | apply below_alloc | apply pw_below_drewN | apply below_drew1) | exact HB.out)⟩⟩
      case rest =>
        clear HC3
        try clear p2
        try clear c4
        try clear c4b0
        try clear p2
        obtain ⟨kq, x15_2, rfl, HA, HJ2, HO_5, HB⟩ := hcut
        cases kq with
        | zero => exact absurd HA.out (by simp [cachepotbook_Writes.j1])
        | succ kj2 =>
          have H := HA.out
          clear HA
          simp only [cachepotbook_Writes.j1] at H
          by_cases c5 : x15_2 = true
          · subst c5
            have H1 : (if 0 ≤ x6_1 then (if x6_1 < (l0.length : Int) then ((cachepotbook_Short.f ((rd_T101 l0 x6_1).f0) 60).bind fun t184 => ((cachepotbook_Short.f ((rd_T101 l0 x6_1).f2) 60).bind fun t187 => (if x5_1.length < 3518437208883 then (cachepotbook_Writes.l0 kj2 l0 a1 (x5_1 ++ [(⟨t184, (rd_T101 l0 x6_1).f1, t187⟩ : S101)]) (wrap64 (x6_1 + 1))) else (none)))) else (none)) else (none)) = some r := by rw [if_pos rfl] at H; exact H
            clear H
            have H := H1
            clear H1
            by_cases c6 : 0 ≤ x6_1
            · rw [if_pos c6] at H
              have c6b0 : decide (0 ≤ x6_1) = true := decide_eq_true c6
              clear c6
              by_cases c7 : x6_1 < (l0.length : Int)
              · rw [if_pos c7] at H
                have c7b0 : decide (x6_1 < (l0.length : Int)) = true := decide_eq_true c7
                clear c7
                replace H := Option.bind_eq_some_iff.mp H
                obtain ⟨t184, A80, H⟩ := H
                replace H : ((cachepotbook_Short.f ((rd_T101 l0 x6_1).f2) 60).bind fun t187 => (if x5_1.length < 3518437208883 then (cachepotbook_Writes.l0 kj2 l0 a1 (x5_1 ++ [(⟨t184, (rd_T101 l0 x6_1).f1, t187⟩ : S101)]) (wrap64 (x6_1 + 1))) else (none))) = some r := H
                have A8 := Aside0.mk A80
                clear A80
                replace H := Option.bind_eq_some_iff.mp H
                obtain ⟨t187, A90, H⟩ := H
                replace H : (if x5_1.length < 3518437208883 then (cachepotbook_Writes.l0 kj2 l0 a1 (x5_1 ++ [(⟨t184, (rd_T101 l0 x6_1).f1, t187⟩ : S101)]) (wrap64 (x6_1 + 1))) else (none)) = some r := H
                have A9 := Aside0.mk A90
                clear A90
                by_cases c10 : x5_1.length < 3518437208883
                · rw [if_pos c10] at H
                  have LMc10 := Aside0.mk c10
                  clear c10
                  obtain ⟨y188, hy188⟩ : ∃ y_ : List (S101), y_ = (x5_1 ++ [(⟨t184, (rd_T101 l0 x6_1).f1, t187⟩ : S101)]) := ⟨_, rfl⟩
                  replace H : (cachepotbook_Writes.l0 kj2 l0 a1 y188 (wrap64 (x6_1 + 1))) = some r := by first | (rw [hy188]; with_reducible exact H) | (have H2_ := (Option.bind_some _ _).symm.trans H; rw [hy188]; with_reducible exact H2_) | (have H2_ := (Option.bind_some _ _).symm.trans H; with_reducible exact H2_) | with_reducible exact H | (rw [hy188]; exact H) | exact H
                  have Ny188 := Aside0.mk hy188
                  clear hy188
                  have H' := Aside0.mk H
                  clear H
                  try go_wp2
                  have n0_ := Aside0.mk (Kd.R_drew HO_5.out)
                  have n1_ := Aside0.mk (below_drew1 HB.out)
                  clear HO_5
                  clear HB
                  have HO_5 := n0_
                  have HB := n1_
                  clear n0_ n1_
                  have p183 : 0 ≤ (x6_1 : Int) := of_decide_eq_true (by first | (with_reducible assumption) | assumption)
                  have q183 : x6_1 < (l0.length : Int) := of_decide_eq_true (by first | (with_reducible assumption) | assumption)
                  obtain ⟨ad183, e183, hx183_0, hx183_1, hx183_2⟩ := at_T101 HR0.out x6_1 p183 q183
                  have hw183_2 := hx183_2
                  have hw183_1 := hx183_1
                  have hw183_0 := hx183_0
                  cases e183
                  replace hx183_0 := (HB.out.cell (World.block_lt_of_cell? w _ hx183_0)).trans hx183_0
                  replace hx183_1 := (HB.out.cell (World.block_lt_of_cell? w _ hx183_1)).trans hx183_1
                  replace hx183_2 := (HB.out.cell (World.block_lt_of_cell? w _ hx183_2)).trans hx183_2
                  replace p183 := eq_true p183
                  replace q183 := eq_true q183
                  have p185 : 0 ≤ (x6_1 : Int) := of_decide_eq_true (by first | (with_reducible assumption) | assumption)
                  have q185 : x6_1 < (l0.length : Int) := of_decide_eq_true (by first | (with_reducible assumption) | assumption)
                  obtain ⟨ad185, e185, hx185_0, hx185_1, hx185_2⟩ := at_T101 HR0.out x6_1 p185 q185
                  have hw185_2 := hx185_2
                  have hw185_1 := hx185_1
                  have hw185_0 := hx185_0
                  obtain rfl : ad183 = ad185 := (by injection e185)
                  replace hx185_0 := (HB.out.cell (World.block_lt_of_cell? w _ hx185_0)).trans hx185_0
                  replace hx185_1 := (HB.out.cell (World.block_lt_of_cell? w _ hx185_1)).trans hx185_1
                  replace hx185_2 := (HB.out.cell (World.block_lt_of_cell? w _ hx185_2)).trans hx185_2
                  replace p185 := eq_true p185
                  replace q185 := eq_true q185
                  have p186 : 0 ≤ (x6_1 : Int) := of_decide_eq_true (by first | (with_reducible assumption) | assumption)
                  have q186 : x6_1 < (l0.length : Int) := of_decide_eq_true (by first | (with_reducible assumption) | assumption)
                  obtain ⟨ad186, e186, hx186_0, hx186_1, hx186_2⟩ := at_T101 HR0.out x6_1 p186 q186
                  have hw186_2 := hx186_2
                  have hw186_1 := hx186_1
                  have hw186_0 := hx186_0
                  obtain rfl : ad183 = ad186 := (by injection e186)
                  replace hx186_0 := (HB.out.cell (World.block_lt_of_cell? w _ hx186_0)).trans hx186_0
                  replace hx186_1 := (HB.out.cell (World.block_lt_of_cell? w _ hx186_1)).trans hx186_1
                  replace hx186_2 := (HB.out.cell (World.block_lt_of_cell? w _ hx186_2)).trans hx186_2
                  replace p186 := eq_true p186
                  replace q186 := eq_true q186
                  refine start_ (n := 22) (S := fun w' => w'.cell? (ad183.add ((x6_1).toNat * 3)) = some (.string ((rd_T101 l0 x6_1).f0)) ∧ w'.cell? ⟨(ad183.add ((x6_1).toNat * 3)).block, (ad183.add ((x6_1).toNat * 3)).off + 1, none⟩ = some (.bool ((rd_T101 l0 x6_1).f1)) ∧ w'.cell? ⟨(ad183.add ((x6_1).toNat * 3)).block, (ad183.add ((x6_1).toNat * 3)).off + 2, none⟩ = some (.string ((rd_T101 l0 x6_1).f2)) ∧ w'.cell? (ad183.add ((x6_1).toNat * 3)) = some (.string ((rd_T101 l0 x6_1).f0)) ∧ w'.cell? ⟨(ad183.add ((x6_1).toNat * 3)).block, (ad183.add ((x6_1).toNat * 3)).off + 1, none⟩ = some (.bool ((rd_T101 l0 x6_1).f1)) ∧ w'.cell? ⟨(ad183.add ((x6_1).toNat * 3)).block, (ad183.add ((x6_1).toNat * 3)).off + 2, none⟩ = some (.string ((rd_T101 l0 x6_1).f2)) ∧ w'.cell? (ad183.add ((x6_1).toNat * 3)) = some (.string ((rd_T101 l0 x6_1).f0)) ∧ w'.cell? ⟨(ad183.add ((x6_1).toNat * 3)).block, (ad183.add ((x6_1).toNat * 3)).off + 1, none⟩ = some (.bool ((rd_T101 l0 x6_1).f1)) ∧ w'.cell? ⟨(ad183.add ((x6_1).toNat * 3)).block, (ad183.add ((x6_1).toNat * 3)).off + 2, none⟩ = some (.string ((rd_T101 l0 x6_1).f2))) (ds := []) #[false, false, false, false, false, false, false, false, false, false, false, false, false, false, false, false, false, false, false, false, false, false] (by kernel_rfl) rfl rfl ⟨((HB.out.cell (World.block_lt_of_cell? w _ hw183_0)).trans hw183_0), ((HB.out.cell (World.block_lt_of_cell? w _ hw183_1)).trans hw183_1), ((HB.out.cell (World.block_lt_of_cell? w _ hw183_2)).trans hw183_2), ((HB.out.cell (World.block_lt_of_cell? w _ hw185_0)).trans hw185_0), ((HB.out.cell (World.block_lt_of_cell? w _ hw185_1)).trans hw185_1), ((HB.out.cell (World.block_lt_of_cell? w _ hw185_2)).trans hw185_2), ((HB.out.cell (World.block_lt_of_cell? w _ hw186_0)).trans hw186_0), ((HB.out.cell (World.block_lt_of_cell? w _ hw186_1)).trans hw186_1), ((HB.out.cell (World.block_lt_of_cell? w _ hw186_2)).trans hw186_2)⟩ (fun hHeld => ?_); refine with_tabW cachepotbook_Writes.tab5 cachepotbook_Writes.bits5 (fun HT_ HW_ => ?_)
                  generalize wc.drew = w11 at HO_5 HB hx183_0 hx183_1 hx183_2 hx185_0 hx185_1 hx185_2 hx186_0 hx186_1 hx186_2 hHeld ⊢
                  refine pure_ (i := 0) (N := some 18) (v := ?_) (a' := ?_) #[true, false, false, false, false, false, false, false, false, false, false, false, false, false, false, false, false, false, false, false, false, false] rfl rfl (any_of HT_.out (by kernel_rfl)) (fun _ _ _ h => h) (Or.inl ⟨by rfl, ?_⟩) ?_ ?_
                  rotate_left
                  · intro w'
                    go_simp
                    with_reducible rfl
                  rotate_left
                  · simp only [Act.put, List.setIfInBounds_toArray, List.set_cons_zero, List.set_cons_succ, i64_w, i32_w]
                    rfl
                  refine pure_ (i := 1) (N := some 19) (v := ?_) (a' := ?_) #[true, true, false, false, false, false, false, false, false, false, false, false, false, false, false, false, false, false, false, false, false, false] rfl rfl (any_of HT_.out (by kernel_rfl)) (fun _ _ _ h => h) (Or.inl ⟨by rfl, ?_⟩) ?_ ?_
                  rotate_left
                  · intro w'
                    go_simp
                    with_reducible rfl
                  rotate_left
                  · simp only [Act.put, List.setIfInBounds_toArray, List.set_cons_zero, List.set_cons_succ, i64_w, i32_w]
                    rfl
                  refine pure_ (i := 2) (N := some 20) (v := ?_) (a' := ?_) #[true, true, true, false, false, false, false, false, false, false, false, false, false, false, false, false, false, false, false, false, false, false] rfl rfl (any_of HT_.out (by kernel_rfl)) (fun _ _ _ h => h) (Or.inl ⟨by rfl, ?_⟩) ?_ ?_
                  rotate_left
                  · intro w'
                    go_simp
                    with_reducible rfl
                  rotate_left
                  · simp only [Act.put, List.setIfInBounds_toArray, List.set_cons_zero, List.set_cons_succ, i64_w, i32_w]
                    rfl
                  refine pure_ (i := 3) (N := some 21) (v := ?_) (a' := ?_) #[true, true, true, true, false, false, false, false, false, false, false, false, false, false, false, false, false, false, false, false, false, false] rfl rfl (any_of HT_.out (by kernel_rfl)) (fun _ _ _ h => h) (Or.inl ⟨by rfl, ?_⟩) ?_ ?_
                  rotate_left
                  · intro w'
                    go_simp
                    with_reducible rfl
                  rotate_left
                  · simp only [Act.put, List.setIfInBounds_toArray, List.set_cons_zero, List.set_cons_succ, i64_w, i32_w]
                    rfl
                  refine pure_ (i := 4) (N := some 22) (v := ?_) (a' := ?_) #[true, true, true, true, true, false, false, false, false, false, false, false, false, false, false, false, false, false, false, false, false, false] rfl rfl (any_of HT_.out (by kernel_rfl)) (fun _ _ _ h => h) (Or.inl ⟨by rfl, ?_⟩) ?_ ?_
                  rotate_left
                  · intro w'
                    go_simp
                    with_reducible rfl
                  rotate_left
                  · simp only [Act.put, List.setIfInBounds_toArray, List.set_cons_zero, List.set_cons_succ, i64_w, i32_w]
                    rfl
                  refine pure_ (i := 7) (N := some 25) (v := ?_) (a' := ?_) #[true, true, true, true, true, false, false, true, false, false, false, false, false, false, false, false, false, false, false, false, false, false] rfl rfl (any_of HT_.out (by kernel_rfl)) (fun _ _ _ h => h) (Or.inl ⟨by rfl, ?_⟩) ?_ ?_
                  rotate_left
                  · intro w'
                    go_simp
                    with_reducible rfl
                  rotate_left
                  · simp only [Act.put, List.setIfInBounds_toArray, List.set_cons_zero, List.set_cons_succ, i64_w, i32_w]
                    rfl
                  refine pure_ (i := 8) (N := some 26) (v := ?_) (a' := ?_) #[true, true, true, true, true, false, false, true, true, false, false, false, false, false, false, false, false, false, false, false, false, false] rfl rfl (any_of HT_.out (by kernel_rfl)) (fun _ _ _ h => h) (Or.inl ⟨by rfl, ?_⟩) ?_ ?_
                  rotate_left
                  · intro w'
                    go_simp
                    with_reducible rfl
                  rotate_left
                  · simp only [Act.put, List.setIfInBounds_toArray, List.set_cons_zero, List.set_cons_succ, i64_w, i32_w]
                    rfl
                  refine pure_ (i := 9) (N := some 27) (v := ?_) (a' := ?_) #[true, true, true, true, true, false, false, true, true, true, false, false, false, false, false, false, false, false, false, false, false, false] rfl rfl (any_of HT_.out (by kernel_rfl)) (fun _ _ _ h => h) (Or.inl ⟨by rfl, ?_⟩) ?_ ?_
                  rotate_left
                  · intro w'
                    go_simp
                    with_reducible rfl
                  rotate_left
                  · simp only [Act.put, List.setIfInBounds_toArray, List.set_cons_zero, List.set_cons_succ, i64_w, i32_w]
                    rfl
                  refine pure_ (i := 10) (N := some 28) (v := ?_) (a' := ?_) #[true, true, true, true, true, false, false, true, true, true, true, false, false, false, false, false, false, false, false, false, false, false] rfl rfl (any_of HT_.out (by kernel_rfl)) (fun _ _ _ h => h) (Or.inl ⟨by rfl, ?_⟩) ?_ ?_
                  rotate_left
                  · intro w'
                    go_simp
                    with_reducible rfl
                  rotate_left
                  · simp only [Act.put, List.setIfInBounds_toArray, List.set_cons_zero, List.set_cons_succ, i64_w, i32_w]
                    rfl
                  refine pure_ (i := 12) (N := some 30) (v := ?_) (a' := ?_) #[true, true, true, true, true, false, false, true, true, true, true, false, true, false, false, false, false, false, false, false, false, false] rfl rfl (any_of HT_.out (by kernel_rfl)) (fun _ _ _ h => h) (Or.inl ⟨by rfl, ?_⟩) ?_ ?_
                  rotate_left
                  · intro w'
                    go_simp
                    with_reducible rfl
                  rotate_left
                  · simp only [Act.put, List.setIfInBounds_toArray, List.set_cons_zero, List.set_cons_succ, i64_w, i32_w]
                    rfl
                  refine pure_ (i := 13) (N := some 31) (v := ?_) (a' := ?_) #[true, true, true, true, true, false, false, true, true, true, true, false, true, true, false, false, false, false, false, false, false, false] rfl rfl (any_of HT_.out (by kernel_rfl)) (fun _ _ _ h => h) (Or.inl ⟨by rfl, ?_⟩) ?_ ?_
                  rotate_left
                  · intro w'
                    go_simp
                    with_reducible rfl
                  rotate_left
                  · simp only [Act.put, List.setIfInBounds_toArray, List.set_cons_zero, List.set_cons_succ, i64_w, i32_w]
                    rfl
                  refine pure_ (i := 14) (N := some 32) (v := ?_) (a' := ?_) #[true, true, true, true, true, false, false, true, true, true, true, false, true, true, true, false, false, false, false, false, false, false] rfl rfl (any_of HT_.out (by kernel_rfl)) (fun _ _ _ h => h) (Or.inl ⟨by rfl, ?_⟩) ?_ ?_
                  rotate_left
                  · intro w'
                    go_simp
                    with_reducible rfl
                  rotate_left
                  · simp only [Act.put, List.setIfInBounds_toArray, List.set_cons_zero, List.set_cons_succ, i64_w, i32_w]
                    rfl
                  refine pure_ (i := 15) (N := some 33) (v := ?_) (a' := ?_) #[true, true, true, true, true, false, false, true, true, true, true, false, true, true, true, true, false, false, false, false, false, false] rfl rfl (any_of HT_.out (by kernel_rfl)) (fun _ _ _ h => h) (Or.inl ⟨by rfl, ?_⟩) ?_ ?_
                  rotate_left
                  · intro w'
                    go_simp
                    with_reducible rfl
                  rotate_left
                  · simp only [Act.put, List.setIfInBounds_toArray, List.set_cons_zero, List.set_cons_succ, i64_w, i32_w]
                    rfl
                  refine take_ (i := 5) (N := some 23) (v := ?_) (a' := ?_) #[true, true, true, true, true, true, false, true, true, true, true, false, true, true, true, true, false, false, false, false, false, false] rfl rfl (take_ofW HT_.out HW_.out (by kernel_rfl)) (fun _ _ _ h => h) (Or.inl ⟨by rfl, ?_⟩) hHeld ?_ ?_
                  rotate_left
                  · rintro w' ⟨s0, s1, s2, s3, s4, s5, s6, s7, s8⟩
                    go_simp
                    with_reducible rfl
                  rotate_left
                  · simp only [Act.put, List.setIfInBounds_toArray, List.set_cons_zero, List.set_cons_succ, i64_w, i32_w]
                    rfl
                  refine take_ (i := 11) (N := some 29) (v := ?_) (a' := ?_) #[true, true, true, true, true, true, false, true, true, true, true, true, true, true, true, true, false, false, false, false, false, false] rfl rfl (take_ofW HT_.out HW_.out (by kernel_rfl)) (fun _ _ _ h => h) (Or.inl ⟨by rfl, ?_⟩) hHeld ?_ ?_
                  rotate_left
                  · rintro w' ⟨s0, s1, s2, s3, s4, s5, s6, s7, s8⟩
                    go_simp
                    with_reducible rfl
                  rotate_left
                  · simp only [Act.put, List.setIfInBounds_toArray, List.set_cons_zero, List.set_cons_succ, i64_w, i32_w]
                    rfl
                  refine take_ (i := 16) (N := some 34) (v := ?_) (a' := ?_) #[true, true, true, true, true, true, false, true, true, true, true, true, true, true, true, true, true, false, false, false, false, false] rfl rfl (take_ofW HT_.out HW_.out (by kernel_rfl)) (fun _ _ _ h => h) (Or.inl ⟨by rfl, ?_⟩) hHeld ?_ ?_
                  rotate_left
                  · rintro w' ⟨s0, s1, s2, s3, s4, s5, s6, s7, s8⟩
                    go_simp
                    with_reducible rfl
                  rotate_left
                  · simp only [Act.put, List.setIfInBounds_toArray, List.set_cons_zero, List.set_cons_succ, i64_w, i32_w]
                    rfl
                  refine one_ (i := 6) (N := some 24) #[true, true, true, true, true, true, true, true, true, true, true, true, true, true, true, true, true, false, false, false, false, false] rfl rfl (one_of HT_.out (by kernel_rfl)) (by decide) (fun K hK => ?_)
                  refine goes_ Tryd.func27 (by kernel_rfl) rfl #[.string ((rd_T101 l0 x6_1).f0), .int .i64 60] (by rfl) rfl rfl (by (try simp only [List.map_toArray, List.map_cons, List.map_nil]); first | done | rfl | (simp only [List.length_drop, List.length_take]; rfl)) ?_
                  with_reducible refine (cachepotbook_Short.calls ((rd_T101 l0 x6_1).f0) 60 t184 _ A8.out).mono ?_
                  rintro e w12 ⟨rfl, hb⟩
                  refine ⟨_, rfl, ?_⟩
                  have n0_ := Aside0.mk (Kd.R_below (by (with_reducible repeat (first | apply Kd.R_alloc | apply Kd.R_drewN | apply Kd.R_drew)); exact HO_5.out) hb)
                  have n1_ := Aside0.mk (below_step (by repeat (first | (with_reducible first | exact HB.out | apply below_alloc | apply pw_below_drewN | apply below_drew1) | exact HB.out)) hb)
                  clear HO_5
                  clear HB
                  have HO_5 := n0_
                  have HB := n1_
                  clear n0_ n1_
                  (try clear hb)
                  (try clear hb2)
                  (try clear hk)
                  (try clear hi)
                  refine hK.out _ _ ⟨((HB.out.cell (World.block_lt_of_cell? w _ hw183_0)).trans hw183_0), ((HB.out.cell (World.block_lt_of_cell? w _ hw183_1)).trans hw183_1), ((HB.out.cell (World.block_lt_of_cell? w _ hw183_2)).trans hw183_2), ((HB.out.cell (World.block_lt_of_cell? w _ hw185_0)).trans hw185_0), ((HB.out.cell (World.block_lt_of_cell? w _ hw185_1)).trans hw185_1), ((HB.out.cell (World.block_lt_of_cell? w _ hw185_2)).trans hw185_2), ((HB.out.cell (World.block_lt_of_cell? w _ hw186_0)).trans hw186_0), ((HB.out.cell (World.block_lt_of_cell? w _ hw186_1)).trans hw186_1), ((HB.out.cell (World.block_lt_of_cell? w _ hw186_2)).trans hw186_2)⟩ (fun hHeld => ?_)
                  clear hK K
                  refine norm_ (a' := ?_) ?_ ?_
                  rotate_left
                  · show Act.put _ (some 24) _ = _
                    simp only [Act.put, List.setIfInBounds_toArray, List.set_cons_zero, List.set_cons_succ, i64_w, i32_w]
                    rfl
                  refine one_ (i := 17) (N := some 35) #[true, true, true, true, true, true, true, true, true, true, true, true, true, true, true, true, true, true, false, false, false, false] rfl rfl (one_of HT_.out (by kernel_rfl)) (by decide) (fun K hK => ?_)
                  refine goes_ Tryd.func27 (by kernel_rfl) rfl #[.string ((rd_T101 l0 x6_1).f2), .int .i64 60] (by rfl) rfl rfl (by (try simp only [List.map_toArray, List.map_cons, List.map_nil]); first | done | rfl | (simp only [List.length_drop, List.length_take]; rfl)) ?_
                  with_reducible refine (cachepotbook_Short.calls ((rd_T101 l0 x6_1).f2) 60 t187 _ A9.out).mono ?_
                  rintro e w13 ⟨rfl, hb⟩
                  refine ⟨_, rfl, ?_⟩
                  have n0_ := Aside0.mk (Kd.R_below (by (with_reducible repeat (first | apply Kd.R_alloc | apply Kd.R_drewN | apply Kd.R_drew)); exact HO_5.out) hb)
                  have n1_ := Aside0.mk (below_step (by repeat (first | (with_reducible first | exact HB.out | apply below_alloc | apply pw_below_drewN | apply below_drew1) | exact HB.out)) hb)
                  clear HO_5
                  clear HB
                  have HO_5 := n0_
                  have HB := n1_
                  clear n0_ n1_
                  (try clear hb)
                  (try clear hb2)
                  (try clear hk)
                  (try clear hi)
                  refine hK.out _ _ ⟨((HB.out.cell (World.block_lt_of_cell? w _ hw183_0)).trans hw183_0), ((HB.out.cell (World.block_lt_of_cell? w _ hw183_1)).trans hw183_1), ((HB.out.cell (World.block_lt_of_cell? w _ hw183_2)).trans hw183_2), ((HB.out.cell (World.block_lt_of_cell? w _ hw185_0)).trans hw185_0), ((HB.out.cell (World.block_lt_of_cell? w _ hw185_1)).trans hw185_1), ((HB.out.cell (World.block_lt_of_cell? w _ hw185_2)).trans hw185_2), ((HB.out.cell (World.block_lt_of_cell? w _ hw186_0)).trans hw186_0), ((HB.out.cell (World.block_lt_of_cell? w _ hw186_1)).trans hw186_1), ((HB.out.cell (World.block_lt_of_cell? w _ hw186_2)).trans hw186_2)⟩ (fun hHeld => ?_)
                  clear hK K
                  refine norm_ (a' := ?_) ?_ ?_
                  rotate_left
                  · show Act.put _ (some 35) _ = _
                    simp only [Act.put, List.setIfInBounds_toArray, List.set_cons_zero, List.set_cons_succ, i64_w, i32_w]
                    rfl
                  refine pure_ (i := 18) (N := some 36) (v := ?_) (a' := ?_) #[true, true, true, true, true, true, true, true, true, true, true, true, true, true, true, true, true, true, true, false, false, false] rfl rfl (any_of HT_.out (by kernel_rfl)) (fun _ _ _ h => h) (Or.inl ⟨by rfl, ?_⟩) ?_ ?_
                  rotate_left
                  · intro w'
                    go_simp
                    with_reducible rfl
                  rotate_left
                  · simp only [Act.put, List.setIfInBounds_toArray, List.set_cons_zero, List.set_cons_succ, i64_w, i32_w]
                    rfl
                  refine one_ (i := 19) (N := some 37) #[true, true, true, true, true, true, true, true, true, true, true, true, true, true, true, true, true, true, true, true, false, false] rfl rfl (one_of HT_.out (by kernel_rfl)) (by decide) (fun K hK => ?_)
                  refine value_ (w1 := ?_) (v := ?_) (by rfl) rfl ?_ ?_
                  rotate_left 2
                  · go_simp
                    constructor
                    · rfl
                    · rfl
                  refine hK.out _ _ ⟨(World.cell?_alloc_lt _ _ _ (World.block_lt_of_cell? _ _ (((HB.out.cell (World.block_lt_of_cell? w _ hw183_0)).trans hw183_0)))).trans (((HB.out.cell (World.block_lt_of_cell? w _ hw183_0)).trans hw183_0)), (World.cell?_alloc_lt _ _ _ (World.block_lt_of_cell? _ _ (((HB.out.cell (World.block_lt_of_cell? w _ hw183_1)).trans hw183_1)))).trans (((HB.out.cell (World.block_lt_of_cell? w _ hw183_1)).trans hw183_1)), (World.cell?_alloc_lt _ _ _ (World.block_lt_of_cell? _ _ (((HB.out.cell (World.block_lt_of_cell? w _ hw183_2)).trans hw183_2)))).trans (((HB.out.cell (World.block_lt_of_cell? w _ hw183_2)).trans hw183_2)), (World.cell?_alloc_lt _ _ _ (World.block_lt_of_cell? _ _ (((HB.out.cell (World.block_lt_of_cell? w _ hw185_0)).trans hw185_0)))).trans (((HB.out.cell (World.block_lt_of_cell? w _ hw185_0)).trans hw185_0)), (World.cell?_alloc_lt _ _ _ (World.block_lt_of_cell? _ _ (((HB.out.cell (World.block_lt_of_cell? w _ hw185_1)).trans hw185_1)))).trans (((HB.out.cell (World.block_lt_of_cell? w _ hw185_1)).trans hw185_1)), (World.cell?_alloc_lt _ _ _ (World.block_lt_of_cell? _ _ (((HB.out.cell (World.block_lt_of_cell? w _ hw185_2)).trans hw185_2)))).trans (((HB.out.cell (World.block_lt_of_cell? w _ hw185_2)).trans hw185_2)), (World.cell?_alloc_lt _ _ _ (World.block_lt_of_cell? _ _ (((HB.out.cell (World.block_lt_of_cell? w _ hw186_0)).trans hw186_0)))).trans (((HB.out.cell (World.block_lt_of_cell? w _ hw186_0)).trans hw186_0)), (World.cell?_alloc_lt _ _ _ (World.block_lt_of_cell? _ _ (((HB.out.cell (World.block_lt_of_cell? w _ hw186_1)).trans hw186_1)))).trans (((HB.out.cell (World.block_lt_of_cell? w _ hw186_1)).trans hw186_1)), (World.cell?_alloc_lt _ _ _ (World.block_lt_of_cell? _ _ (((HB.out.cell (World.block_lt_of_cell? w _ hw186_2)).trans hw186_2)))).trans (((HB.out.cell (World.block_lt_of_cell? w _ hw186_2)).trans hw186_2))⟩ (fun hHeld => ?_)
                  clear hK K
                  refine norm_ (a' := ?_) ?_ ?_
                  rotate_left
                  · show Act.put _ (some 37) _ = _
                    simp only [Act.put, List.setIfInBounds_toArray, List.set_cons_zero, List.set_cons_succ, i64_w, i32_w]
                    rfl
                  refine one_ (i := 20) (N := some 38) #[true, true, true, true, true, true, true, true, true, true, true, true, true, true, true, true, true, true, true, true, true, false] rfl rfl (one_of HT_.out (by kernel_rfl)) (by decide) (fun K hK => ?_)
                  refine Kd.R_append_step k101 (w0 := w) w.heap.size (by rfl) (.tmp 18) (.tmp 37) 40 101 (.agg #[(.string ⟨#[]⟩), (.bool false), (.string ⟨#[]⟩)]) 40 rfl Tryd.underlying40 info101 rfl (by decide) (by omega) u5 x5_1 (⟨t184, (rd_T101 l0 x6_1).f1, t187⟩ : S101) [.string t184, .bool ((rd_T101 l0 x6_1).f1), .string t187] (fun _ => True) (fun _ => False) rfl rfl ?aP (fun _ hk => hk.elim) ?aF ?aO ?aB ?aS ?aL ?_
                  (case aP => exact k101_mkM _ _ _ (⟨t184, (rd_T101 l0 x6_1).f1, t187⟩ : S101))
                  (case aB => exact (by repeat (first | (with_reducible first | exact HB.out | apply below_alloc | apply pw_below_drewN | apply below_drew1) | exact HB.out)))
                  (case aF => exact (fun _ _ => trivial))
                  (case aO => exact (by (with_reducible repeat (first | apply Kd.R_alloc | apply Kd.R_drewN | apply Kd.R_drew)); exact HO_5.out))
                  (case aS => exact (below_size (by repeat (first | (with_reducible first | exact HB.out | apply below_alloc | apply pw_below_drewN | apply below_drew1) | exact HB.out))))
                  (case aL => have := LMc10.out; omega)
                  intro v189 w14 ho hb hg hat
                  rw [← Ny188.out] at ho
                  have n0_ := Aside0.mk (hb)
                  have n1_ := Aside0.mk (ho)
                  clear HB
                  clear HO_5
                  have HB := n0_
                  have HO190 := n1_
                  clear n0_ n1_
                  clear ho hb hg hat
                  refine hK.out _ _ ⟨((HB.out.cell (World.block_lt_of_cell? w _ hw183_0)).trans hw183_0), ((HB.out.cell (World.block_lt_of_cell? w _ hw183_1)).trans hw183_1), ((HB.out.cell (World.block_lt_of_cell? w _ hw183_2)).trans hw183_2), ((HB.out.cell (World.block_lt_of_cell? w _ hw185_0)).trans hw185_0), ((HB.out.cell (World.block_lt_of_cell? w _ hw185_1)).trans hw185_1), ((HB.out.cell (World.block_lt_of_cell? w _ hw185_2)).trans hw185_2), ((HB.out.cell (World.block_lt_of_cell? w _ hw186_0)).trans hw186_0), ((HB.out.cell (World.block_lt_of_cell? w _ hw186_1)).trans hw186_1), ((HB.out.cell (World.block_lt_of_cell? w _ hw186_2)).trans hw186_2)⟩ (fun hHeld => ?_)
                  clear hK K
                  refine norm_ (a' := ?_) ?_ ?_
                  rotate_left
                  · show Act.put _ (some 38) _ = _
                    simp only [Act.put, List.setIfInBounds_toArray, List.set_cons_zero, List.set_cons_succ, i64_w, i32_w]
                    rfl
                  refine pure_ (i := 21) (N := some 5) (v := ?_) (a' := ?_) #[true, true, true, true, true, true, true, true, true, true, true, true, true, true, true, true, true, true, true, true, true, true] rfl rfl (any_of HT_.out (by kernel_rfl)) (fun _ _ _ h => h) (Or.inl ⟨by rfl, ?_⟩) ?_ ?_
                  rotate_left
                  · intro w'
                    go_simp
                    with_reducible rfl
                  rotate_left
                  · simp only [Act.put, List.setIfInBounds_toArray, List.set_cons_zero, List.set_cons_succ, i64_w, i32_w]
                    rfl
                  refine done_ (done_of HT_.out (by kernel_rfl)) ?_
                  try go_wp2
                  go_roundg kj2
                  case measure => have := HK1.out; have := HJ2.out; omega
                  case rel => exact ⟨(y188), (wrap64 (x6_1 + 1)), (by first | rfl | (simp; done) | (simp [*]; done)), H', ⟨by have := HK1.out; have := HJ2.out; omega⟩, ⟨by (with_reducible repeat (first | apply Kd.R_alloc | apply Kd.R_drewN | apply Kd.R_drew)); exact HO190.out⟩, ⟨by repeat (first | (with_reducible first | exact HB.out | apply below_alloc | apply pw_below_drewN | apply below_drew1) | exact HB.out)⟩⟩
                · rw [if_neg c10] at H
                  exact absurd H (by simp)
              · rw [if_neg c7] at H
                exact absurd H (by simp)
            · rw [if_neg c6] at H
              exact absurd H (by simp)
          · replace c5 := Bool.eq_false_iff.mpr c5
            subst c5
            have H1 : (some x5_1) = some r := by rw [if_neg (show ¬ (false = true) by decide)] at H; exact H
            clear H
            have H := H1
            clear H1
            obtain rfl := Option.some.inj H
            go_wp2
            go_ret
            exact ⟨_, by first | rfl | (simp [errW_none, errW_some] <;> rfl) | (simp [*, errW_none, errW_some] <;> rfl), by (with_reducible repeat (first | apply Kd.R_alloc | apply Kd.R_drewN | apply Kd.R_drew)); exact HO_5.out, by repeat (first | (with_reducible first | exact HB.out | apply below_alloc | apply pw_below_drewN | apply below_drew1) | exact HB.out)⟩
end Go.Proofs.YtfaelejeihmgcaaDoor.Lgx
end
