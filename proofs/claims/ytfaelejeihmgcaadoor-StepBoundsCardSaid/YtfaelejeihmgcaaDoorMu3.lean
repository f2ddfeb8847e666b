/-
  Texts of mine, and texts that print.sh and pp.py wrote, merged and cut to what is used: St4
-/
import Derived.Test.YtfaelejeihmgcaaDoorProg
import Derived.Below
import Derived.Shelf.Unicode.DecodeSlow
import Derived.Lib.ItoaMem
import Derived.Lib.LaidTab
import Derived.Test.YtfaelejeihmgcaaDoorCards
import Derived.Test.YtfaelejeihmgcaaDoorTie
import Derived.Lib.LaidU8T
import Derived.PinnedBridge
import Derived.LaidMore
import Derived.Lay
import Derived.ProofKit
import Derived.OpenShut
import Derived.SevenTiedAt
import Derived.Stop.Joined
import Derived.Deep.DeepHandedRow
import Derived.Deep.Draws
import Derived.Deep.AppendLies
import Derived.Maps.AppendAt
import Derived.OwnWalk
import Derived.Laws.BytesArg
import Derived.Laws.MakeOwn
import Derived.Laws.OwnMore
import Derived.Deep.OwnRows
import Derived.Tactics
import Derived.Lib.ConvBytes
import Derived.Laws.Slices
import Derived.WalkKit
import Derived.KernelRfl
import Derived.RowKit3
import Derived.Deep.LoopGhost
import Derived.Deep.QuietTactic
import Derived.BigQuiet
import Derived.WideLaws
import Derived.Deep.DeepCutAuto
import Derived.Deep.CutBlock
import Derived.Deep.RegionHeld3
import Derived.Laws.Rows
import Derived.Lib.AppendStr
import Derived.ArgAppend
import Derived.Laws.IdiomCopy
import Derived.RowKit
import Derived.Test.YtfaelejeihmgcaaDoorRows
import Derived.ChangeArms
import Derived.DataReads
import Derived.DataElems
import Derived.Shelf.Strings.Builder1
import Derived.Shelf.Strings.Builder2
import Derived.Shelf.Strings.OnBuilder
import Derived.Shelf.Strings.BuilderF
import Derived.Shelf.Strings.BuilderK
import Derived.Shelf.Strings.Builder2Cap
import Derived.Shelf.Strconv.Atoi
import Derived.Shelf.Strconv.Itoa0
import Derived.Shelf.Strconv.Itoa1
import Derived.Shelf.LaysM
import Derived.Shelf.Strconv.Itoa2
import Derived.Shelf.Strconv.Itoa3
import Derived.Shelf.Strconv.AtoiErrFast
import Derived.Shelf.Strconv.ParseIntEmpty
import Derived.Shelf.Strconv.AtoiFail
import Derived.Shelf.Strconv.Clone
import Derived.Shelf.Strconv.SyntaxError
import Derived.Shelf.LaysC
import Derived.Shelf.Strconv.ToError
import Derived.Shelf.Strconv.Lower
import Derived.Shelf.Strconv.ParseUint10
import Derived.Shelf.Strconv.ParseUint10Empty
import Derived.Shelf.Strconv.ParseUint10Any
import Derived.Shelf.Strconv.ParseInt10
import Derived.Shelf.Strconv.AtoiLong
import Derived.Shelf.Strconv.AtoiInnerAll
import Derived.Shelf.Strconv.RangeError
import Derived.Shelf.Strconv.ToErrorRange
import Derived.Shelf.Strconv.AtoiAll
import Derived.Shelf.Strconv.ErrVarAll
import Derived.Shelf.Strconv.ParseUintEmpty
import Derived.Shelf.Strconv.ParseUint10b64
import Derived.Shelf.Strconv.ParseUint10b32
import Derived.Shelf.Strconv.ParseUint10b16
import Derived.Shelf.Strconv.ParseUint10b8
import Derived.Shelf.Strings.Prefix
import Derived.Shelf.Unicode.Decode
import Derived.Shelf.Unicode.DecodeAny
import Derived.Lib.AppendIntMem
import Derived.FnData
import Derived.Outline
import Derived.Tactics2
import Derived.OrdersHeld
import Derived.Laws.BitsLemmas
import Derived.Laws.StructEq
import Derived.Lib.AtoiTie
import Derived.Lib.Strings
import Derived.Lib.Slices
import Derived.Lib.Walk
import Derived.Lib.Builder
import Derived.Lib.UnsafeStr
import Derived.Laws.Externs
import Derived.Lib.DecodeNEq
import Derived.Lib.OthersKept
import Derived.Lib.Hide
import Derived.BigCall
import Derived.StillTailTactics
import Derived.BigRegion
import Derived.RegionTactic
import Derived.IntWalk
import Derived.WalkSpells
import Derived.Laws.Pointers
import Derived.Deep.RegionWith
import Derived.Test.YtfaelejeihmgcaaDoorMu0
import Derived.Test.YtfaelejeihmgcaaDoorMu1
import Derived.Test.YtfaelejeihmgcaaDoorMu2

section
namespace Go.Proofs.YtfaelejeihmgcaaDoor.Stp
open Go.RowKit Go.Proofs.YtfaelejeihmgcaaDoorW.PrintWords Go.Proofs.YtfaelejeihmgcaaDoorW.PrintLast Go.Proofs.YtfaelejeihmgcaaDoorW.PrintMore
attribute [local go_sem] max2_int min2_int max_two min_two max_three min_three max_four min_four   -- for this text's walks alone
set_option linter.unusedVariables false
set_option linter.unusedSimpArgs false
mutual
def cachepotlaw26_bare.j0 : Nat → Int → Bool → Int → Int → ByteArray → ByteArray → List ByteArray → Int → List Int → Int → Int → Int → Int → Int → ByteArray → ByteArray → Int → Int → Int → Int → Option (Int × Int × ByteArray × ByteArray × List ByteArray × Int × List Int × Int × Int × Int)
  | 0, _, _, _, _, _, _, _, _, _, _, _, _, _, _, _, _, _, _, _, _ => none
  | k + 1, x8, x36, x190000, x190001, x190002, x190003, x190004, x190005, x190006, x190007, x190008, x190009, x192000, x192001, x192002, x192003, x192005, x192007, x192008, x192009 => if x36 = true then (some (x192000, x190001, x192002, x192003, ([] : List ByteArray), x192005, ([] : List Int), x192007, x192008, x192009)) else (if x8 = 8 then (cachepotlaw26_bare.j1 k x8 (x8 == 8) x190000 x190001 x190002 x190003 x190004 x190005 x190006 x190007 x190008 x190009 x192000 x192001 x192002 x192003 x192005 x192007 x192008 x192009) else (cachepotlaw26_bare.j1 k x8 (x8 == 9) x190000 x190001 x190002 x190003 x190004 x190005 x190006 x190007 x190008 x190009 x192000 x192001 x192002 x192003 x192005 x192007 x192008 x192009))
def cachepotlaw26_bare.j1 : Nat → Int → Bool → Int → Int → ByteArray → ByteArray → List ByteArray → Int → List Int → Int → Int → Int → Int → Int → ByteArray → ByteArray → Int → Int → Int → Int → Option (Int × Int × ByteArray × ByteArray × List ByteArray × Int × List Int × Int × Int × Int)
  | 0, _, _, _, _, _, _, _, _, _, _, _, _, _, _, _, _, _, _, _, _ => none
  | k + 1, x8, x42, x190000, x190001, x190002, x190003, x190004, x190005, x190006, x190007, x190008, x190009, x192000, x192001, x192002, x192003, x192005, x192007, x192008, x192009 => if x42 = true then (some (x192000, x192001, x190002, x192003, ([] : List ByteArray), x192005, ([] : List Int), x192007, x192008, x192009)) else (if x8 = 11 then (some (x192000, x192001, x192002, x192003, ([] : List ByteArray), x190005, ([] : List Int), x192007, x192008, x192009)) else (if x8 = 12 then (some (x192000, x192001, x192002, x192003, ([] : List ByteArray), x192005, x190006, x192007, x192008, x192009)) else (if x8 = 13 then (some (x192000, x192001, x192002, x192003, ([] : List ByteArray), x192005, ([] : List Int), x190007, x190008, x190009)) else (some (x192000, x192001, x192002, x192003, ([] : List ByteArray), x192005, ([] : List Int), x192007, x192008, x192009)))))
end
def cachepotlaw26_bare.f (k : Nat) (a0_0 : Int) (a0_1 : Int) (a0_2 : ByteArray) (a0_3 : ByteArray) (l0_4 : List ByteArray) (a0_5 : Int) (l0_6 : List Int) (a0_7 : Int) (a0_8 : Int) (a0_9 : Int) : Option (Int × Int × ByteArray × ByteArray × List ByteArray × Int × List Int × Int × Int × Int) := if a0_0 = 2 then (some (a0_0, a0_1, a0_2, a0_3, ([] : List ByteArray), 0, ([] : List Int), 0, 0, 0)) else (if a0_0 = 3 then (some (a0_0, a0_1, a0_2, (⟨#[]⟩ : ByteArray), ([] : List ByteArray), 0, ([] : List Int), 0, 0, 0)) else (if a0_0 = 4 then (some (a0_0, a0_1, (⟨#[]⟩ : ByteArray), (⟨#[]⟩ : ByteArray), l0_4, 0, ([] : List Int), 0, 0, 0)) else (if a0_0 = 5 then (cachepotlaw26_bare.j0 k a0_0 (a0_0 == 5) a0_0 a0_1 a0_2 a0_3 l0_4 a0_5 l0_6 a0_7 a0_8 a0_9 a0_0 0 (⟨#[]⟩ : ByteArray) (⟨#[]⟩ : ByteArray) 0 0 0 0) else (cachepotlaw26_bare.j0 k a0_0 (a0_0 == 6) a0_0 a0_1 a0_2 a0_3 l0_4 a0_5 l0_6 a0_7 a0_8 a0_9 a0_0 0 (⟨#[]⟩ : ByteArray) (⟨#[]⟩ : ByteArray) 0 0 0 0))))
def cachepotlaw26_bare.T4 : Bool × List (List Nat × List Nat) := (true, [([], []), ([0], [0]), ([], []), ([2], [2]), ([], []), ([4], [4]), ([0, 1], []), ([6, 1, 0, 1], [1, 6]), ([0, 1, 2, 3, 6, 7], []), ([8, 3, 7, 0, 1, 2, 3, 6, 7], [3, 8]), ([0, 1, 2, 3, 4, 5, 6, 7, 8, 9], []), ([10, 5, 9, 0, 1, 2, 3, 4, 5, 6, 7, 8, 9], [5, 10])])
def cachepotlaw26_bare.B4 : List Nat := [0, 1, 0, 4, 0, 16, 3, 67, 207, 463, 1023, 2047]
theorem cachepotlaw26_bare.tab4 : rtab .any (opsOf Tryd.f49 4) = cachepotlaw26_bare.T4 := by kernel_rfl
theorem cachepotlaw26_bare.bits4 : waitsOk cachepotlaw26_bare.T4.2 cachepotlaw26_bare.B4 = true := by kernel_rfl
def cachepotlaw26_bare.T6 : Bool × List (List Nat × List Nat) := (true, [([], []), ([0], [0]), ([], []), ([2], [2]), ([0, 1], []), ([4, 1, 0, 1], [1, 4]), ([0, 1, 2, 3, 4, 5], []), ([6, 3, 5, 0, 1, 2, 3, 4, 5], [3, 6])])
def cachepotlaw26_bare.B6 : List Nat := [0, 1, 0, 4, 3, 19, 63, 127]
theorem cachepotlaw26_bare.tab6 : rtab .any (opsOf Tryd.f49 6) = cachepotlaw26_bare.T6 := by kernel_rfl
theorem cachepotlaw26_bare.bits6 : waitsOk cachepotlaw26_bare.T6.2 cachepotlaw26_bare.B6 = true := by kernel_rfl
def cachepotlaw26_bare.T8 : Bool × List (List Nat × List Nat) := (true, [([], []), ([0], [0]), ([], []), ([2], [2]), ([0, 1], []), ([4, 1, 0, 1], [1, 4]), ([0, 1, 2, 3, 4, 5], []), ([6, 3, 5, 0, 1, 2, 3, 4, 5], [3, 6])])
def cachepotlaw26_bare.B8 : List Nat := [0, 1, 0, 4, 3, 19, 63, 127]
theorem cachepotlaw26_bare.tab8 : rtab .any (opsOf Tryd.f49 8) = cachepotlaw26_bare.T8 := by kernel_rfl
theorem cachepotlaw26_bare.bits8 : waitsOk cachepotlaw26_bare.T8.2 cachepotlaw26_bare.B8 = true := by kernel_rfl
def cachepotlaw26_bare.T20 : Bool × List (List Nat × List Nat) := (true, [([], []), ([0], [0]), ([], []), ([2], [2]), ([], []), ([4], [4]), ([0, 1], []), ([6, 1, 0, 1], [1, 6]), ([0, 1, 2, 3, 6, 7], []), ([8, 3, 7, 0, 1, 2, 3, 6, 7], [3, 8]), ([0, 1, 2, 3, 4, 5, 6, 7, 8, 9], []), ([10, 5, 9, 0, 1, 2, 3, 4, 5, 6, 7, 8, 9], [5, 10])])
def cachepotlaw26_bare.B20 : List Nat := [0, 1, 0, 4, 0, 16, 3, 67, 207, 463, 1023, 2047]
theorem cachepotlaw26_bare.tab20 : rtab .any (opsOf Tryd.f49 20) = cachepotlaw26_bare.T20 := by kernel_rfl
theorem cachepotlaw26_bare.bits20 : waitsOk cachepotlaw26_bare.T20.2 cachepotlaw26_bare.B20 = true := by kernel_rfl
set_option maxHeartbeats 8000000 in
set_option maxRecDepth 100000 in
theorem cachepotlaw26_bare.calls (k : Nat) (a0_0 : Int) (a0_1 : Int) (a0_2 : ByteArray) (a0_3 : ByteArray) (P0_4_ : Nat → Prop) (u9000_ : Value) (l0_4 : List ByteArray) (a0_5 : Int) (P0_6_ : Nat → Prop) (u9001_ : Value) (l0_6 : List Int) (a0_7 : Int) (a0_8 : Int) (a0_9 : Int) (r1 : Int) (r2 : Int) (r3 : ByteArray) (r4 : ByteArray) (r5 : List ByteArray) (r6 : Int) (r7 : List Int) (r8 : Int) (r9 : Int) (r10 : Int) (w0 w : World) (hB : Below w0.heap.size w0 w) (ho0_4 : Kd.R Kd.string 9 w w0.heap.size P0_4_ u9000_ l0_4) (ho0_6 : Kd.R (Kd.int .i64) 3 w w0.heap.size P0_6_ u9001_ l0_6) (h : cachepotlaw26_bare.f k a0_0 a0_1 a0_2 a0_3 l0_4 a0_5 l0_6 a0_7 a0_8 a0_9 = some (r1, r2, r3, r4, r5, r6, r7, r8, r9, r10)) :
    Calls Tryd.prog 49 #[.agg #[.int .i64 a0_0, .int .i64 a0_1, .string a0_2, .string a0_3, u9000_, .int .i64 a0_5, u9001_, .int .i64 a0_7, .int .i64 a0_8, .int .i64 a0_9]] w fun e w' => ∃ v4_ v6_ : Value, e = .returned (.agg #[.int .i64 r1, .int .i64 r2, .string r3, .string r4, v4_, .int .i64 r6, v6_, .int .i64 r8, .int .i64 r9, .int .i64 r10]) ∧ Kd.R Kd.string 9 w' w0.heap.size (fun k_ => ((P0_4_ k_ ∨ P0_6_ k_) ∨ w.heap.size ≤ k_)) v4_ r5 ∧ Kd.R (Kd.int .i64) 3 w' w0.heap.size (fun k_ => ((P0_4_ k_ ∨ P0_6_ k_) ∨ w.heap.size ≤ k_)) v6_ r7 ∧ Below w0.heap.size w0 w' ∧ Kept w w' (fun k_ => P0_4_ k_ ∨ P0_6_ k_) := by
  have hu61 := Tryd.underlying61
  have HO0_4 := Aside0.mk (show Kd.R Kd.string 9 w w0.heap.size (fun k_ => ((P0_4_ k_ ∨ P0_6_ k_) ∨ w.heap.size ≤ k_)) u9000_ l0_4 from Kd.R_mono ho0_4 (fun k_ hk => (.inl (.inl hk))))
  have HO0_6 := Aside0.mk (show Kd.R (Kd.int .i64) 3 w w0.heap.size (fun k_ => ((P0_4_ k_ ∨ P0_6_ k_) ∨ w.heap.size ≤ k_)) u9001_ l0_6 from Kd.R_mono ho0_6 (fun k_ hk => (.inl (.inr hk))))
  have HK := Aside0.mk (Kept.refl w (fun k_ => P0_4_ k_ ∨ P0_6_ k_))
  have HW0 := Aside0.mk hB.size
  have HB := Aside0.mk hB
  clear hB
  have H : (if a0_0 = 2 then (some (a0_0, a0_1, a0_2, a0_3, ([] : List ByteArray), 0, ([] : List Int), 0, 0, 0)) else (if a0_0 = 3 then (some (a0_0, a0_1, a0_2, (⟨#[]⟩ : ByteArray), ([] : List ByteArray), 0, ([] : List Int), 0, 0, 0)) else (if a0_0 = 4 then (some (a0_0, a0_1, (⟨#[]⟩ : ByteArray), (⟨#[]⟩ : ByteArray), l0_4, 0, ([] : List Int), 0, 0, 0)) else (if a0_0 = 5 then (cachepotlaw26_bare.j0 k a0_0 (a0_0 == 5) a0_0 a0_1 a0_2 a0_3 l0_4 a0_5 l0_6 a0_7 a0_8 a0_9 a0_0 0 (⟨#[]⟩ : ByteArray) (⟨#[]⟩ : ByteArray) 0 0 0 0) else (cachepotlaw26_bare.j0 k a0_0 (a0_0 == 6) a0_0 a0_1 a0_2 a0_3 l0_4 a0_5 l0_6 a0_7 a0_8 a0_9 a0_0 0 (⟨#[]⟩ : ByteArray) (⟨#[]⟩ : ByteArray) 0 0 0 0))))) = some (r1, r2, r3, r4, r5, r6, r7, r8, r9, r10) := h
  clear h
  by_cases c2 : a0_0 = 2
  · rw [if_pos c2] at H
    have c2b0 : (a0_0 == 2) = true := beq_iff_eq.mpr c2
    have c2b1 : (a0_0 != 2) = false := bne_eq_false_iff_eq.mpr c2
    clear c2
    simp only [Option.some.injEq, Prod.mk.injEq] at H
    obtain ⟨rfl, rfl, rfl, rfl, rfl, rfl, rfl, rfl, rfl, rfl⟩ := H
    obtain ⟨Ao3, co3, eo3⟩ := Kd.R_slice HO0_4.out
    subst eo3
    obtain ⟨Ao4, co4, eo4⟩ := Kd.R_slice HO0_6.out
    subst eo4
    go_enter Tryd.func49, Tryd.ntmps49
    try go_wp2_with (first | ((with_reducible refine gate_dst (N := 1) rfl ?_); refine box_event ?hg (N := 1) ?hd (cs := #[.int .i64 a0_0, .int .i64 a0_1, .string a0_2, .string a0_3, .slice Ao3 l0_4.length co3, .int .i64 a0_5, .slice Ao4 l0_6.length co4, .int .i64 a0_7, .int .i64 a0_8, .int .i64 a0_9]) (t := 61) ?hr ?_; (case hd => rfl); (case hg => rfl); (case hr => first | (go_simp; done) | (go_simp; rfl)); intro gb189 hg w5 hbox hb; have n0_ := Aside0.mk (Kd.R_below (by (with_reducible repeat (first | apply Kd.R_alloc | apply Kd.R_drewN | apply Kd.R_drew)); exact HO0_4.out) hb); have n1_ := Aside0.mk (Kd.R_below (by (with_reducible repeat (first | apply Kd.R_alloc | apply Kd.R_drewN | apply Kd.R_drew)); exact HO0_6.out) hb); have n2_ := Aside0.mk (Kept.below (S := (fun k_ => P0_4_ k_ ∨ P0_6_ k_)) (by repeat (first | (with_reducible first | exact HK.out | apply Kept.alloc | apply Kept.drewN | apply Kept.drew) | exact HK.out)) hb); have n3_ := Aside0.mk (below_step (by repeat (first | (with_reducible first | exact HB.out | apply below_alloc | apply pw_below_drewN | apply below_drew1) | exact HB.out)) hb); have n4_ := Aside0.mk (hbox); have n5_ := Aside0.mk ((by rw [hg]; exact (by first | exact HK.out.1 | exact (show Kept w _ (fun k_ => P0_4_ k_ ∨ P0_6_ k_) from by repeat (first | (with_reducible first | exact HK.out | apply Kept.alloc | apply Kept.drewN | apply Kept.drew) | exact HK.out)).1) : w.heap.size ≤ gb189)); have n6_ := Aside0.mk ((by rw [hg]; exact (below_size (by repeat (first | (with_reducible first | exact HB.out | apply below_alloc | apply pw_below_drewN | apply below_drew1) | exact HB.out))) : w0.heap.size ≤ gb189)); clear HO0_4; clear HO0_6; clear HK; clear HB; have HO0_4 := n0_; have HO0_6 := n1_; have HK := n2_; have HB := n3_; have BK189 := n4_; have GW189 := n5_; have GE189 := n6_; clear n0_ n1_ n2_ n3_ n4_ n5_ n6_; clear hb hbox hg) | ((with_reducible refine gate_dst (N := 2) rfl ?_); refine box_event ?hg (N := 2) ?hd (cs := #[.int .i64 0, .int .i64 0, .string (⟨#[]⟩ : ByteArray), .string (⟨#[]⟩ : ByteArray), .slice none 0 0, .int .i64 0, .slice none 0 0, .int .i64 0, .int .i64 0, .int .i64 0]) (t := 61) ?hr ?_; (case hd => rfl); (case hg => rfl); (case hr => first | (go_simp; done) | (go_simp; rfl)); intro gb190 hg w6 hbox hb; have n0_ := Aside0.mk (Kd.R_below (by (with_reducible repeat (first | apply Kd.R_alloc | apply Kd.R_drewN | apply Kd.R_drew)); exact HO0_4.out) hb); have n1_ := Aside0.mk (Kd.R_below (by (with_reducible repeat (first | apply Kd.R_alloc | apply Kd.R_drewN | apply Kd.R_drew)); exact HO0_6.out) hb); have n2_ := Aside0.mk (blk_below (g := gb189) (o := .cells #[.int .i64 a0_0, .int .i64 a0_1, .string a0_2, .string a0_3, .slice Ao3 l0_4.length co3, .int .i64 a0_5, .slice Ao4 l0_6.length co4, .int .i64 a0_7, .int .i64 a0_8, .int .i64 a0_9] 61 (0, 0)) (by (with_reducible repeat (first | refine blk_drewN ?_ _ | refine blk_drew ?_ | refine blk_alloc ?_ _)); exact BK189.out) hb); have n3_ := Aside0.mk (Kept.below (S := (fun k_ => P0_4_ k_ ∨ P0_6_ k_)) (by repeat (first | (with_reducible first | exact HK.out | apply Kept.alloc | apply Kept.drewN | apply Kept.drew | refine Kept.setCell ?_ (.inr GW189.out) _) | exact HK.out)) hb); have n4_ := Aside0.mk (below_step (by repeat (first | (with_reducible first | exact HB.out | apply below_alloc | apply pw_below_drewN | apply below_drew1 | refine below_set ?_ GE189.out) | exact HB.out)) hb); have n5_ := Aside0.mk (hbox); have n6_ := Aside0.mk ((by rw [hg]; exact (by first | exact HK.out.1 | exact (show Kept w _ (fun k_ => P0_4_ k_ ∨ P0_6_ k_) from by repeat (first | (with_reducible first | exact HK.out | apply Kept.alloc | apply Kept.drewN | apply Kept.drew | refine Kept.setCell ?_ (.inr GW189.out) _) | exact HK.out)).1) : w.heap.size ≤ gb190)); have n7_ := Aside0.mk ((by rw [hg]; exact (below_size (by repeat (first | (with_reducible first | exact HB.out | apply below_alloc | apply pw_below_drewN | apply below_drew1 | refine below_set ?_ GE189.out) | exact HB.out))) : w0.heap.size ≤ gb190)); have n8_ := Aside0.mk ((by rw [hg]; exact Nat.ne_of_lt (blk_lt (g := gb189) (o := .cells #[.int .i64 a0_0, .int .i64 a0_1, .string a0_2, .string a0_3, .slice Ao3 l0_4.length co3, .int .i64 a0_5, .slice Ao4 l0_6.length co4, .int .i64 a0_7, .int .i64 a0_8, .int .i64 a0_9] 61 (0, 0)) (by (with_reducible repeat (first | refine blk_drewN ?_ _ | refine blk_drew ?_ | refine blk_alloc ?_ _)); exact BK189.out)) : gb189 ≠ gb190)); have n9_ := Aside0.mk ((by rw [hg]; exact Nat.ne_of_gt (blk_lt (g := gb189) (o := .cells #[.int .i64 a0_0, .int .i64 a0_1, .string a0_2, .string a0_3, .slice Ao3 l0_4.length co3, .int .i64 a0_5, .slice Ao4 l0_6.length co4, .int .i64 a0_7, .int .i64 a0_8, .int .i64 a0_9] 61 (0, 0)) (by (with_reducible repeat (first | refine blk_drewN ?_ _ | refine blk_drew ?_ | refine blk_alloc ?_ _)); exact BK189.out)) : gb190 ≠ gb189)); clear HO0_4; clear HO0_6; clear BK189; clear HK; clear HB; have HO0_4 := n0_; have HO0_6 := n1_; have BK189 := n2_; have HK := n3_; have HB := n4_; have BK190 := n5_; have GW190 := n6_; have GE190 := n7_; have NB189_190 := n8_; have NB190_189 := n9_; clear n0_ n1_ n2_ n3_ n4_ n5_ n6_ n7_ n8_ n9_; clear hb hbox hg; have hnb7 := NB189_190.out; have hnc7 := NB190_189.out; have hcz8_0 : w6.cell? ⟨gb189, 0, none⟩ = some (.int .i64 a0_0) := (blk_cell BK189.out 0).trans rfl; have hcz8_1 : w6.cell? ⟨gb189, 1, none⟩ = some (.int .i64 a0_1) := (blk_cell BK189.out 1).trans rfl; have hcz8_2 : w6.cell? ⟨gb189, 2, none⟩ = some (.string a0_2) := (blk_cell BK189.out 2).trans rfl; have hcz8_3 : w6.cell? ⟨gb189, 3, none⟩ = some (.string a0_3) := (blk_cell BK189.out 3).trans rfl; have hcz8_4 : w6.cell? ⟨gb189, 4, none⟩ = some (.slice Ao3 l0_4.length co3) := (blk_cell BK189.out 4).trans rfl; have hcz8_5 : w6.cell? ⟨gb189, 5, none⟩ = some (.int .i64 a0_5) := (blk_cell BK189.out 5).trans rfl; have hcz8_6 : w6.cell? ⟨gb189, 6, none⟩ = some (.slice Ao4 l0_6.length co4) := (blk_cell BK189.out 6).trans rfl; have hcz8_7 : w6.cell? ⟨gb189, 7, none⟩ = some (.int .i64 a0_7) := (blk_cell BK189.out 7).trans rfl; have hcz8_8 : w6.cell? ⟨gb189, 8, none⟩ = some (.int .i64 a0_8) := (blk_cell BK189.out 8).trans rfl; have hcz8_9 : w6.cell? ⟨gb189, 9, none⟩ = some (.int .i64 a0_9) := (blk_cell BK189.out 9).trans rfl; have hfz8_0 := blk_frozen BK189.out 0; have hfz8_1 := blk_frozen BK189.out 1; have hfz8_2 := blk_frozen BK189.out 2; have hfz8_3 := blk_frozen BK189.out 3; have hfz8_4 := blk_frozen BK189.out 4; have hfz8_5 := blk_frozen BK189.out 5; have hfz8_6 := blk_frozen BK189.out 6; have hfz8_7 := blk_frozen BK189.out 7; have hfz8_8 := blk_frozen BK189.out 8; have hfz8_9 := blk_frozen BK189.out 9) | ((with_reducible refine gate_dst (N := 3) rfl ?_); refine box_event ?hg (N := 3) ?hd (cs := #[.int .i64 0, .int .i64 0, .string (⟨#[]⟩ : ByteArray), .string (⟨#[]⟩ : ByteArray), .slice none 0 0, .int .i64 0, .slice none 0 0, .int .i64 0, .int .i64 0, .int .i64 0]) (t := 61) ?hr ?_; (case hd => rfl); (case hg => rfl); (case hr => first | (go_simp; done) | (go_simp; rfl)); intro gb191 hg w9 hbox hb; have n0_ := Aside0.mk (Kd.R_below (by (with_reducible repeat (first | apply Kd.R_alloc | apply Kd.R_drewN | apply Kd.R_drew)); exact HO0_4.out) hb); have n1_ := Aside0.mk (Kd.R_below (by (with_reducible repeat (first | apply Kd.R_alloc | apply Kd.R_drewN | apply Kd.R_drew)); exact HO0_6.out) hb); have n2_ := Aside0.mk (blk_below (g := gb189) (o := .cells #[.int .i64 a0_0, .int .i64 a0_1, .string a0_2, .string a0_3, .slice Ao3 l0_4.length co3, .int .i64 a0_5, .slice Ao4 l0_6.length co4, .int .i64 a0_7, .int .i64 a0_8, .int .i64 a0_9] 61 (0, 0)) (by (with_reducible repeat (first | refine blk_drewN ?_ _ | refine blk_drew ?_ | refine blk_alloc ?_ _)); exact BK189.out) hb); have n3_ := Aside0.mk (blk_below (g := gb190) (o := .cells #[.int .i64 0, .int .i64 0, .string (⟨#[]⟩ : ByteArray), .string (⟨#[]⟩ : ByteArray), .slice none 0 0, .int .i64 0, .slice none 0 0, .int .i64 0, .int .i64 0, .int .i64 0] 61 (0, 0)) (by (with_reducible repeat (first | refine blk_drewN ?_ _ | refine blk_drew ?_ | refine blk_alloc ?_ _)); exact BK190.out) hb); have n4_ := Aside0.mk (Kept.below (S := (fun k_ => P0_4_ k_ ∨ P0_6_ k_)) (by repeat (first | (with_reducible first | exact HK.out | apply Kept.alloc | apply Kept.drewN | apply Kept.drew | refine Kept.setCell ?_ (.inr GW189.out) _ | refine Kept.setCell ?_ (.inr GW190.out) _) | exact HK.out)) hb); have n5_ := Aside0.mk (below_step (by repeat (first | (with_reducible first | exact HB.out | apply below_alloc | apply pw_below_drewN | apply below_drew1 | refine below_set ?_ GE189.out | refine below_set ?_ GE190.out) | exact HB.out)) hb); have n6_ := Aside0.mk (hbox); have n7_ := Aside0.mk ((by rw [hg]; exact (by first | exact HK.out.1 | exact (show Kept w _ (fun k_ => P0_4_ k_ ∨ P0_6_ k_) from by repeat (first | (with_reducible first | exact HK.out | apply Kept.alloc | apply Kept.drewN | apply Kept.drew | refine Kept.setCell ?_ (.inr GW189.out) _ | refine Kept.setCell ?_ (.inr GW190.out) _) | exact HK.out)).1) : w.heap.size ≤ gb191)); have n8_ := Aside0.mk ((by rw [hg]; exact (below_size (by repeat (first | (with_reducible first | exact HB.out | apply below_alloc | apply pw_below_drewN | apply below_drew1 | refine below_set ?_ GE189.out | refine below_set ?_ GE190.out) | exact HB.out))) : w0.heap.size ≤ gb191)); have n9_ := Aside0.mk ((by rw [hg]; exact Nat.ne_of_lt (blk_lt (g := gb189) (o := .cells #[.int .i64 a0_0, .int .i64 a0_1, .string a0_2, .string a0_3, .slice Ao3 l0_4.length co3, .int .i64 a0_5, .slice Ao4 l0_6.length co4, .int .i64 a0_7, .int .i64 a0_8, .int .i64 a0_9] 61 (0, 0)) (by (with_reducible repeat (first | refine blk_drewN ?_ _ | refine blk_drew ?_ | refine blk_alloc ?_ _)); exact BK189.out)) : gb189 ≠ gb191)); have n10_ := Aside0.mk ((by rw [hg]; exact Nat.ne_of_gt (blk_lt (g := gb189) (o := .cells #[.int .i64 a0_0, .int .i64 a0_1, .string a0_2, .string a0_3, .slice Ao3 l0_4.length co3, .int .i64 a0_5, .slice Ao4 l0_6.length co4, .int .i64 a0_7, .int .i64 a0_8, .int .i64 a0_9] 61 (0, 0)) (by (with_reducible repeat (first | refine blk_drewN ?_ _ | refine blk_drew ?_ | refine blk_alloc ?_ _)); exact BK189.out)) : gb191 ≠ gb189)); have n11_ := Aside0.mk ((by rw [hg]; exact Nat.ne_of_lt (blk_lt (g := gb190) (o := .cells #[.int .i64 0, .int .i64 0, .string (⟨#[]⟩ : ByteArray), .string (⟨#[]⟩ : ByteArray), .slice none 0 0, .int .i64 0, .slice none 0 0, .int .i64 0, .int .i64 0, .int .i64 0] 61 (0, 0)) (by (with_reducible repeat (first | refine blk_drewN ?_ _ | refine blk_drew ?_ | refine blk_alloc ?_ _)); exact BK190.out)) : gb190 ≠ gb191)); have n12_ := Aside0.mk ((by rw [hg]; exact Nat.ne_of_gt (blk_lt (g := gb190) (o := .cells #[.int .i64 0, .int .i64 0, .string (⟨#[]⟩ : ByteArray), .string (⟨#[]⟩ : ByteArray), .slice none 0 0, .int .i64 0, .slice none 0 0, .int .i64 0, .int .i64 0, .int .i64 0] 61 (0, 0)) (by (with_reducible repeat (first | refine blk_drewN ?_ _ | refine blk_drew ?_ | refine blk_alloc ?_ _)); exact BK190.out)) : gb191 ≠ gb190)); clear HO0_4; clear HO0_6; clear BK189; clear BK190; clear HK; clear HB; have HO0_4 := n0_; have HO0_6 := n1_; have BK189 := n2_; have BK190 := n3_; have HK := n4_; have HB := n5_; have BK191 := n6_; have GW191 := n7_; have GE191 := n8_; have NB189_191 := n9_; have NB191_189 := n10_; have NB190_191 := n11_; have NB191_190 := n12_; clear n0_ n1_ n2_ n3_ n4_ n5_ n6_ n7_ n8_ n9_ n10_ n11_ n12_; clear hb hbox hg; have hnb10 := NB191_189.out; have hnc10 := NB189_191.out; have hnb11 := NB191_190.out; have hnc11 := NB190_191.out; have hcz12_0 : w9.cell? ⟨gb191, 0, none⟩ = some (.int .i64 0) := (blk_cell BK191.out 0).trans rfl; have hcz12_1 : w9.cell? ⟨gb191, 1, none⟩ = some (.int .i64 0) := (blk_cell BK191.out 1).trans rfl; have hcz12_2 : w9.cell? ⟨gb191, 2, none⟩ = some (.string (⟨#[]⟩ : ByteArray)) := (blk_cell BK191.out 2).trans rfl; have hcz12_3 : w9.cell? ⟨gb191, 3, none⟩ = some (.string (⟨#[]⟩ : ByteArray)) := (blk_cell BK191.out 3).trans rfl; have hcz12_4 : w9.cell? ⟨gb191, 4, none⟩ = some (.slice none 0 0) := (blk_cell BK191.out 4).trans rfl; have hcz12_5 : w9.cell? ⟨gb191, 5, none⟩ = some (.int .i64 0) := (blk_cell BK191.out 5).trans rfl; have hcz12_6 : w9.cell? ⟨gb191, 6, none⟩ = some (.slice none 0 0) := (blk_cell BK191.out 6).trans rfl; have hcz12_7 : w9.cell? ⟨gb191, 7, none⟩ = some (.int .i64 0) := (blk_cell BK191.out 7).trans rfl; have hcz12_8 : w9.cell? ⟨gb191, 8, none⟩ = some (.int .i64 0) := (blk_cell BK191.out 8).trans rfl; have hcz12_9 : w9.cell? ⟨gb191, 9, none⟩ = some (.int .i64 0) := (blk_cell BK191.out 9).trans rfl; have hfz12_0 := blk_frozen BK191.out 0; have hfz12_1 := blk_frozen BK191.out 1; have hfz12_2 := blk_frozen BK191.out 2; have hfz12_3 := blk_frozen BK191.out 3; have hfz12_4 := blk_frozen BK191.out 4; have hfz12_5 := blk_frozen BK191.out 5; have hfz12_6 := blk_frozen BK191.out 6; have hfz12_7 := blk_frozen BK191.out 7; have hfz12_8 := blk_frozen BK191.out 8; have hfz12_9 := blk_frozen BK191.out 9; have hcz13_0 : w9.cell? ⟨gb189, 0, none⟩ = some (.int .i64 a0_0) := (blk_cell BK189.out 0).trans rfl; have hcz13_1 : w9.cell? ⟨gb189, 1, none⟩ = some (.int .i64 a0_1) := (blk_cell BK189.out 1).trans rfl; have hcz13_2 : w9.cell? ⟨gb189, 2, none⟩ = some (.string a0_2) := (blk_cell BK189.out 2).trans rfl; have hcz13_3 : w9.cell? ⟨gb189, 3, none⟩ = some (.string a0_3) := (blk_cell BK189.out 3).trans rfl; have hcz13_4 : w9.cell? ⟨gb189, 4, none⟩ = some (.slice Ao3 l0_4.length co3) := (blk_cell BK189.out 4).trans rfl; have hcz13_5 : w9.cell? ⟨gb189, 5, none⟩ = some (.int .i64 a0_5) := (blk_cell BK189.out 5).trans rfl; have hcz13_6 : w9.cell? ⟨gb189, 6, none⟩ = some (.slice Ao4 l0_6.length co4) := (blk_cell BK189.out 6).trans rfl; have hcz13_7 : w9.cell? ⟨gb189, 7, none⟩ = some (.int .i64 a0_7) := (blk_cell BK189.out 7).trans rfl; have hcz13_8 : w9.cell? ⟨gb189, 8, none⟩ = some (.int .i64 a0_8) := (blk_cell BK189.out 8).trans rfl; have hcz13_9 : w9.cell? ⟨gb189, 9, none⟩ = some (.int .i64 a0_9) := (blk_cell BK189.out 9).trans rfl; have hfz13_0 := blk_frozen BK189.out 0; have hfz13_1 := blk_frozen BK189.out 1; have hfz13_2 := blk_frozen BK189.out 2; have hfz13_3 := blk_frozen BK189.out 3; have hfz13_4 := blk_frozen BK189.out 4; have hfz13_5 := blk_frozen BK189.out 5; have hfz13_6 := blk_frozen BK189.out 6; have hfz13_7 := blk_frozen BK189.out 7; have hfz13_8 := blk_frozen BK189.out 8; have hfz13_9 := blk_frozen BK189.out 9))
    have n0_ : Aside0 (Kd.R Kd.string 9 ((((((((((w9.setCell ⟨gb191, 0, none⟩ (.int .i64 a0_0)).setCell ⟨gb191, 1, none⟩ (.int .i64 0)).setCell ⟨gb191, 2, none⟩ (.string (⟨#[]⟩ : ByteArray))).setCell ⟨gb191, 3, none⟩ (.string (⟨#[]⟩ : ByteArray))).setCell ⟨gb191, 4, none⟩ (.slice none 0 0)).setCell ⟨gb191, 5, none⟩ (.int .i64 0)).setCell ⟨gb191, 6, none⟩ (.slice none 0 0)).setCell ⟨gb191, 7, none⟩ (.int .i64 0)).setCell ⟨gb191, 8, none⟩ (.int .i64 0)).setCell ⟨gb191, 9, none⟩ (.int .i64 0)) w0.heap.size (fun k_ => ((P0_4_ k_ ∨ P0_6_ k_) ∨ w.heap.size ≤ k_)) (.slice Ao3 l0_4.length co3) l0_4) := ⟨by (with_reducible repeat (first | apply Kd.R_alloc | apply Kd.R_drewN | apply Kd.R_drew)); exact Kd.R_mono (Kd.R_far (p := ⟨gb191, 9, none⟩) (Kd.R_far (p := ⟨gb191, 8, none⟩) (Kd.R_far (p := ⟨gb191, 7, none⟩) (Kd.R_far (p := ⟨gb191, 6, none⟩) (Kd.R_far (p := ⟨gb191, 5, none⟩) (Kd.R_far (p := ⟨gb191, 4, none⟩) (Kd.R_far (p := ⟨gb191, 3, none⟩) (Kd.R_far (p := ⟨gb191, 2, none⟩) (Kd.R_far (p := ⟨gb191, 1, none⟩) (Kd.R_far (p := ⟨gb191, 0, none⟩) (Kd.R_types HO0_4.out BK191.out (by decide)) (fun _ hk => hk.2) (.int .i64 a0_0)) (fun _ hk => hk.2) (.int .i64 0)) (fun _ hk => hk.2) (.string (⟨#[]⟩ : ByteArray))) (fun _ hk => hk.2) (.string (⟨#[]⟩ : ByteArray))) (fun _ hk => hk.2) (.slice none 0 0)) (fun _ hk => hk.2) (.int .i64 0)) (fun _ hk => hk.2) (.slice none 0 0)) (fun _ hk => hk.2) (.int .i64 0)) (fun _ hk => hk.2) (.int .i64 0)) (fun _ hk => hk.2) (.int .i64 0)) (fun _ hk => hk.1)⟩
    have n1_ : Aside0 (Kd.R (Kd.int .i64) 3 ((((((((((w9.setCell ⟨gb191, 0, none⟩ (.int .i64 a0_0)).setCell ⟨gb191, 1, none⟩ (.int .i64 0)).setCell ⟨gb191, 2, none⟩ (.string (⟨#[]⟩ : ByteArray))).setCell ⟨gb191, 3, none⟩ (.string (⟨#[]⟩ : ByteArray))).setCell ⟨gb191, 4, none⟩ (.slice none 0 0)).setCell ⟨gb191, 5, none⟩ (.int .i64 0)).setCell ⟨gb191, 6, none⟩ (.slice none 0 0)).setCell ⟨gb191, 7, none⟩ (.int .i64 0)).setCell ⟨gb191, 8, none⟩ (.int .i64 0)).setCell ⟨gb191, 9, none⟩ (.int .i64 0)) w0.heap.size (fun k_ => ((P0_4_ k_ ∨ P0_6_ k_) ∨ w.heap.size ≤ k_)) (.slice Ao4 l0_6.length co4) l0_6) := ⟨by (with_reducible repeat (first | apply Kd.R_alloc | apply Kd.R_drewN | apply Kd.R_drew)); exact Kd.R_mono (Kd.R_far (p := ⟨gb191, 9, none⟩) (Kd.R_far (p := ⟨gb191, 8, none⟩) (Kd.R_far (p := ⟨gb191, 7, none⟩) (Kd.R_far (p := ⟨gb191, 6, none⟩) (Kd.R_far (p := ⟨gb191, 5, none⟩) (Kd.R_far (p := ⟨gb191, 4, none⟩) (Kd.R_far (p := ⟨gb191, 3, none⟩) (Kd.R_far (p := ⟨gb191, 2, none⟩) (Kd.R_far (p := ⟨gb191, 1, none⟩) (Kd.R_far (p := ⟨gb191, 0, none⟩) (Kd.R_types HO0_6.out BK191.out (by decide)) (fun _ hk => hk.2) (.int .i64 a0_0)) (fun _ hk => hk.2) (.int .i64 0)) (fun _ hk => hk.2) (.string (⟨#[]⟩ : ByteArray))) (fun _ hk => hk.2) (.string (⟨#[]⟩ : ByteArray))) (fun _ hk => hk.2) (.slice none 0 0)) (fun _ hk => hk.2) (.int .i64 0)) (fun _ hk => hk.2) (.slice none 0 0)) (fun _ hk => hk.2) (.int .i64 0)) (fun _ hk => hk.2) (.int .i64 0)) (fun _ hk => hk.2) (.int .i64 0)) (fun _ hk => hk.1)⟩
    have n2_ : Aside0 (((((((((((w9.setCell ⟨gb191, 0, none⟩ (.int .i64 a0_0)).setCell ⟨gb191, 1, none⟩ (.int .i64 0)).setCell ⟨gb191, 2, none⟩ (.string (⟨#[]⟩ : ByteArray))).setCell ⟨gb191, 3, none⟩ (.string (⟨#[]⟩ : ByteArray))).setCell ⟨gb191, 4, none⟩ (.slice none 0 0)).setCell ⟨gb191, 5, none⟩ (.int .i64 0)).setCell ⟨gb191, 6, none⟩ (.slice none 0 0)).setCell ⟨gb191, 7, none⟩ (.int .i64 0)).setCell ⟨gb191, 8, none⟩ (.int .i64 0)).setCell ⟨gb191, 9, none⟩ (.int .i64 0)).heap[gb189]? = some (.cells #[.int .i64 a0_0, .int .i64 a0_1, .string a0_2, .string a0_3, .slice Ao3 l0_4.length co3, .int .i64 a0_5, .slice Ao4 l0_6.length co4, .int .i64 a0_7, .int .i64 a0_8, .int .i64 a0_9] 61 (0, 0))) := ⟨by (with_reducible repeat (first | refine blk_drewN ?_ _ | refine blk_drew ?_ | refine blk_alloc ?_ _)); refine blk_far ?_ NB189_191.out _; (with_reducible repeat (first | refine blk_drewN ?_ _ | refine blk_drew ?_ | refine blk_alloc ?_ _)); refine blk_far ?_ NB189_191.out _; (with_reducible repeat (first | refine blk_drewN ?_ _ | refine blk_drew ?_ | refine blk_alloc ?_ _)); refine blk_far ?_ NB189_191.out _; (with_reducible repeat (first | refine blk_drewN ?_ _ | refine blk_drew ?_ | refine blk_alloc ?_ _)); refine blk_far ?_ NB189_191.out _; (with_reducible repeat (first | refine blk_drewN ?_ _ | refine blk_drew ?_ | refine blk_alloc ?_ _)); refine blk_far ?_ NB189_191.out _; (with_reducible repeat (first | refine blk_drewN ?_ _ | refine blk_drew ?_ | refine blk_alloc ?_ _)); refine blk_far ?_ NB189_191.out _; (with_reducible repeat (first | refine blk_drewN ?_ _ | refine blk_drew ?_ | refine blk_alloc ?_ _)); refine blk_far ?_ NB189_191.out _; (with_reducible repeat (first | refine blk_drewN ?_ _ | refine blk_drew ?_ | refine blk_alloc ?_ _)); refine blk_far ?_ NB189_191.out _; (with_reducible repeat (first | refine blk_drewN ?_ _ | refine blk_drew ?_ | refine blk_alloc ?_ _)); refine blk_far ?_ NB189_191.out _; (with_reducible repeat (first | refine blk_drewN ?_ _ | refine blk_drew ?_ | refine blk_alloc ?_ _)); refine blk_far ?_ NB189_191.out _; (with_reducible repeat (first | refine blk_drewN ?_ _ | refine blk_drew ?_ | refine blk_alloc ?_ _)); exact BK189.out⟩
    have n3_ : Aside0 (((((((((((w9.setCell ⟨gb191, 0, none⟩ (.int .i64 a0_0)).setCell ⟨gb191, 1, none⟩ (.int .i64 0)).setCell ⟨gb191, 2, none⟩ (.string (⟨#[]⟩ : ByteArray))).setCell ⟨gb191, 3, none⟩ (.string (⟨#[]⟩ : ByteArray))).setCell ⟨gb191, 4, none⟩ (.slice none 0 0)).setCell ⟨gb191, 5, none⟩ (.int .i64 0)).setCell ⟨gb191, 6, none⟩ (.slice none 0 0)).setCell ⟨gb191, 7, none⟩ (.int .i64 0)).setCell ⟨gb191, 8, none⟩ (.int .i64 0)).setCell ⟨gb191, 9, none⟩ (.int .i64 0)).heap[gb190]? = some (.cells #[.int .i64 0, .int .i64 0, .string (⟨#[]⟩ : ByteArray), .string (⟨#[]⟩ : ByteArray), .slice none 0 0, .int .i64 0, .slice none 0 0, .int .i64 0, .int .i64 0, .int .i64 0] 61 (0, 0))) := ⟨by (with_reducible repeat (first | refine blk_drewN ?_ _ | refine blk_drew ?_ | refine blk_alloc ?_ _)); refine blk_far ?_ NB190_191.out _; (with_reducible repeat (first | refine blk_drewN ?_ _ | refine blk_drew ?_ | refine blk_alloc ?_ _)); refine blk_far ?_ NB190_191.out _; (with_reducible repeat (first | refine blk_drewN ?_ _ | refine blk_drew ?_ | refine blk_alloc ?_ _)); refine blk_far ?_ NB190_191.out _; (with_reducible repeat (first | refine blk_drewN ?_ _ | refine blk_drew ?_ | refine blk_alloc ?_ _)); refine blk_far ?_ NB190_191.out _; (with_reducible repeat (first | refine blk_drewN ?_ _ | refine blk_drew ?_ | refine blk_alloc ?_ _)); refine blk_far ?_ NB190_191.out _; (with_reducible repeat (first | refine blk_drewN ?_ _ | refine blk_drew ?_ | refine blk_alloc ?_ _)); refine blk_far ?_ NB190_191.out _; (with_reducible repeat (first | refine blk_drewN ?_ _ | refine blk_drew ?_ | refine blk_alloc ?_ _)); refine blk_far ?_ NB190_191.out _; (with_reducible repeat (first | refine blk_drewN ?_ _ | refine blk_drew ?_ | refine blk_alloc ?_ _)); refine blk_far ?_ NB190_191.out _; (with_reducible repeat (first | refine blk_drewN ?_ _ | refine blk_drew ?_ | refine blk_alloc ?_ _)); refine blk_far ?_ NB190_191.out _; (with_reducible repeat (first | refine blk_drewN ?_ _ | refine blk_drew ?_ | refine blk_alloc ?_ _)); refine blk_far ?_ NB190_191.out _; (with_reducible repeat (first | refine blk_drewN ?_ _ | refine blk_drew ?_ | refine blk_alloc ?_ _)); exact BK190.out⟩
    have n4_ : Aside0 (((((((((((w9.setCell ⟨gb191, 0, none⟩ (.int .i64 a0_0)).setCell ⟨gb191, 1, none⟩ (.int .i64 0)).setCell ⟨gb191, 2, none⟩ (.string (⟨#[]⟩ : ByteArray))).setCell ⟨gb191, 3, none⟩ (.string (⟨#[]⟩ : ByteArray))).setCell ⟨gb191, 4, none⟩ (.slice none 0 0)).setCell ⟨gb191, 5, none⟩ (.int .i64 0)).setCell ⟨gb191, 6, none⟩ (.slice none 0 0)).setCell ⟨gb191, 7, none⟩ (.int .i64 0)).setCell ⟨gb191, 8, none⟩ (.int .i64 0)).setCell ⟨gb191, 9, none⟩ (.int .i64 0)).heap[gb191]? = some (.cells #[.int .i64 a0_0, .int .i64 0, .string (⟨#[]⟩ : ByteArray), .string (⟨#[]⟩ : ByteArray), .slice none 0 0, .int .i64 0, .slice none 0 0, .int .i64 0, .int .i64 0, .int .i64 0] 61 (0, 0))) := ⟨by (with_reducible repeat (first | refine blk_drewN ?_ _ | refine blk_drew ?_ | refine blk_alloc ?_ _)); refine blk_put (cs := #[.int .i64 a0_0, .int .i64 0, .string (⟨#[]⟩ : ByteArray), .string (⟨#[]⟩ : ByteArray), .slice none 0 0, .int .i64 0, .slice none 0 0, .int .i64 0, .int .i64 0, .int .i64 0]) ?_ 9 _ rfl; (with_reducible repeat (first | refine blk_drewN ?_ _ | refine blk_drew ?_ | refine blk_alloc ?_ _)); refine blk_put (cs := #[.int .i64 a0_0, .int .i64 0, .string (⟨#[]⟩ : ByteArray), .string (⟨#[]⟩ : ByteArray), .slice none 0 0, .int .i64 0, .slice none 0 0, .int .i64 0, .int .i64 0, .int .i64 0]) ?_ 8 _ rfl; (with_reducible repeat (first | refine blk_drewN ?_ _ | refine blk_drew ?_ | refine blk_alloc ?_ _)); refine blk_put (cs := #[.int .i64 a0_0, .int .i64 0, .string (⟨#[]⟩ : ByteArray), .string (⟨#[]⟩ : ByteArray), .slice none 0 0, .int .i64 0, .slice none 0 0, .int .i64 0, .int .i64 0, .int .i64 0]) ?_ 7 _ rfl; (with_reducible repeat (first | refine blk_drewN ?_ _ | refine blk_drew ?_ | refine blk_alloc ?_ _)); refine blk_put (cs := #[.int .i64 a0_0, .int .i64 0, .string (⟨#[]⟩ : ByteArray), .string (⟨#[]⟩ : ByteArray), .slice none 0 0, .int .i64 0, .slice none 0 0, .int .i64 0, .int .i64 0, .int .i64 0]) ?_ 6 _ rfl; (with_reducible repeat (first | refine blk_drewN ?_ _ | refine blk_drew ?_ | refine blk_alloc ?_ _)); refine blk_put (cs := #[.int .i64 a0_0, .int .i64 0, .string (⟨#[]⟩ : ByteArray), .string (⟨#[]⟩ : ByteArray), .slice none 0 0, .int .i64 0, .slice none 0 0, .int .i64 0, .int .i64 0, .int .i64 0]) ?_ 5 _ rfl; (with_reducible repeat (first | refine blk_drewN ?_ _ | refine blk_drew ?_ | refine blk_alloc ?_ _)); refine blk_put (cs := #[.int .i64 a0_0, .int .i64 0, .string (⟨#[]⟩ : ByteArray), .string (⟨#[]⟩ : ByteArray), .slice none 0 0, .int .i64 0, .slice none 0 0, .int .i64 0, .int .i64 0, .int .i64 0]) ?_ 4 _ rfl; (with_reducible repeat (first | refine blk_drewN ?_ _ | refine blk_drew ?_ | refine blk_alloc ?_ _)); refine blk_put (cs := #[.int .i64 a0_0, .int .i64 0, .string (⟨#[]⟩ : ByteArray), .string (⟨#[]⟩ : ByteArray), .slice none 0 0, .int .i64 0, .slice none 0 0, .int .i64 0, .int .i64 0, .int .i64 0]) ?_ 3 _ rfl; (with_reducible repeat (first | refine blk_drewN ?_ _ | refine blk_drew ?_ | refine blk_alloc ?_ _)); refine blk_put (cs := #[.int .i64 a0_0, .int .i64 0, .string (⟨#[]⟩ : ByteArray), .string (⟨#[]⟩ : ByteArray), .slice none 0 0, .int .i64 0, .slice none 0 0, .int .i64 0, .int .i64 0, .int .i64 0]) ?_ 2 _ rfl; (with_reducible repeat (first | refine blk_drewN ?_ _ | refine blk_drew ?_ | refine blk_alloc ?_ _)); refine blk_put (cs := #[.int .i64 a0_0, .int .i64 0, .string (⟨#[]⟩ : ByteArray), .string (⟨#[]⟩ : ByteArray), .slice none 0 0, .int .i64 0, .slice none 0 0, .int .i64 0, .int .i64 0, .int .i64 0]) ?_ 1 _ rfl; (with_reducible repeat (first | refine blk_drewN ?_ _ | refine blk_drew ?_ | refine blk_alloc ?_ _)); refine blk_put (cs := #[.int .i64 0, .int .i64 0, .string (⟨#[]⟩ : ByteArray), .string (⟨#[]⟩ : ByteArray), .slice none 0 0, .int .i64 0, .slice none 0 0, .int .i64 0, .int .i64 0, .int .i64 0]) ?_ 0 _ rfl; (with_reducible repeat (first | refine blk_drewN ?_ _ | refine blk_drew ?_ | refine blk_alloc ?_ _)); exact BK191.out⟩
    have n5_ : Aside0 (Kept w ((((((((((w9.setCell ⟨gb191, 0, none⟩ (.int .i64 a0_0)).setCell ⟨gb191, 1, none⟩ (.int .i64 0)).setCell ⟨gb191, 2, none⟩ (.string (⟨#[]⟩ : ByteArray))).setCell ⟨gb191, 3, none⟩ (.string (⟨#[]⟩ : ByteArray))).setCell ⟨gb191, 4, none⟩ (.slice none 0 0)).setCell ⟨gb191, 5, none⟩ (.int .i64 0)).setCell ⟨gb191, 6, none⟩ (.slice none 0 0)).setCell ⟨gb191, 7, none⟩ (.int .i64 0)).setCell ⟨gb191, 8, none⟩ (.int .i64 0)).setCell ⟨gb191, 9, none⟩ (.int .i64 0)) (fun k_ => P0_4_ k_ ∨ P0_6_ k_)) := ⟨by repeat (first | (with_reducible first | exact HK.out | apply Kept.alloc | apply Kept.drewN | apply Kept.drew | refine Kept.setCell ?_ (.inr GW189.out) _ | refine Kept.setCell ?_ (.inr GW190.out) _ | refine Kept.setCell ?_ (.inr GW191.out) _) | exact HK.out)⟩
    have n6_ : Aside0 (Below w0.heap.size w0 ((((((((((w9.setCell ⟨gb191, 0, none⟩ (.int .i64 a0_0)).setCell ⟨gb191, 1, none⟩ (.int .i64 0)).setCell ⟨gb191, 2, none⟩ (.string (⟨#[]⟩ : ByteArray))).setCell ⟨gb191, 3, none⟩ (.string (⟨#[]⟩ : ByteArray))).setCell ⟨gb191, 4, none⟩ (.slice none 0 0)).setCell ⟨gb191, 5, none⟩ (.int .i64 0)).setCell ⟨gb191, 6, none⟩ (.slice none 0 0)).setCell ⟨gb191, 7, none⟩ (.int .i64 0)).setCell ⟨gb191, 8, none⟩ (.int .i64 0)).setCell ⟨gb191, 9, none⟩ (.int .i64 0))) := ⟨by repeat (first | (with_reducible first | exact HB.out | apply below_alloc | apply pw_below_drewN | apply below_drew1 | refine below_set ?_ GE189.out | refine below_set ?_ GE190.out | refine below_set ?_ GE191.out) | exact HB.out)⟩
    (try clear HO0_4)
    (try clear HO0_6)
    (try clear BK189)
    (try clear BK190)
    (try clear BK191)
    (try clear HK)
    (try clear HB)
    generalize ((((((((((w9.setCell ⟨gb191, 0, none⟩ (.int .i64 a0_0)).setCell ⟨gb191, 1, none⟩ (.int .i64 0)).setCell ⟨gb191, 2, none⟩ (.string (⟨#[]⟩ : ByteArray))).setCell ⟨gb191, 3, none⟩ (.string (⟨#[]⟩ : ByteArray))).setCell ⟨gb191, 4, none⟩ (.slice none 0 0)).setCell ⟨gb191, 5, none⟩ (.int .i64 0)).setCell ⟨gb191, 6, none⟩ (.slice none 0 0)).setCell ⟨gb191, 7, none⟩ (.int .i64 0)).setCell ⟨gb191, 8, none⟩ (.int .i64 0)).setCell ⟨gb191, 9, none⟩ (.int .i64 0)) = w14 at n0_ n1_ n2_ n3_ n4_ n5_ n6_ ⊢
    have HO0_4 := n0_
    have HO0_6 := n1_
    have BK189 := n2_
    have BK190 := n3_
    have BK191 := n4_
    have HK := n5_
    have HB := n6_
    clear n0_ n1_ n2_ n3_ n4_ n5_ n6_
    have n0_ := Aside0.mk (Kd.R_drew HO0_4.out)
    have n1_ := Aside0.mk (Kd.R_drew HO0_6.out)
    have n2_ := Aside0.mk (blk_drew BK189.out)
    have n3_ := Aside0.mk (blk_drew BK190.out)
    have n4_ := Aside0.mk (blk_drew BK191.out)
    have n5_ := Aside0.mk (Kept.drew HK.out)
    have n6_ := Aside0.mk (below_drew1 HB.out)
    clear HO0_4
    clear HO0_6
    clear BK189
    clear BK190
    clear BK191
    clear HK
    clear HB
    have HO0_4 := n0_
    have HO0_6 := n1_
    have BK189 := n2_
    have BK190 := n3_
    have BK191 := n4_
    have HK := n5_
    have HB := n6_
    clear n0_ n1_ n2_ n3_ n4_ n5_ n6_
    refine start_ (n := 12) (S := fun w' => w'.cell? ⟨gb189, 0, none⟩ = some (.int .i64 a0_0) ∧ w'.cell? ⟨gb189, 1, none⟩ = some (.int .i64 a0_1) ∧ w'.cell? ⟨gb189, 2, none⟩ = some (.string a0_2) ∧ w'.cell? ⟨gb189, 3, none⟩ = some (.string a0_3) ∧ w'.cell? ⟨gb189, 4, none⟩ = some (.slice Ao3 l0_4.length co3) ∧ w'.cell? ⟨gb189, 5, none⟩ = some (.int .i64 a0_5) ∧ w'.cell? ⟨gb189, 6, none⟩ = some (.slice Ao4 l0_6.length co4) ∧ w'.cell? ⟨gb189, 7, none⟩ = some (.int .i64 a0_7) ∧ w'.cell? ⟨gb189, 8, none⟩ = some (.int .i64 a0_8) ∧ w'.cell? ⟨gb189, 9, none⟩ = some (.int .i64 a0_9)) (ds := []) #[false, false, false, false, false, false, false, false, false, false, false, false] (by kernel_rfl) rfl rfl ⟨(blk_cell BK189.out 0).trans rfl, (blk_cell BK189.out 1).trans rfl, (blk_cell BK189.out 2).trans rfl, (blk_cell BK189.out 3).trans rfl, (blk_cell BK189.out 4).trans rfl, (blk_cell BK189.out 5).trans rfl, (blk_cell BK189.out 6).trans rfl, (blk_cell BK189.out 7).trans rfl, (blk_cell BK189.out 8).trans rfl, (blk_cell BK189.out 9).trans rfl⟩ (fun hHeld => ?_); refine with_tabW cachepotlaw26_bare.tab4 cachepotlaw26_bare.bits4 (fun HT_ HW_ => ?_)
    generalize w14.drew = w15 at HO0_4 HO0_6 BK189 BK190 BK191 HK HB hHeld ⊢
    refine pure_ (i := 0) (N := some 11) (v := ?_) (a' := ?_) #[true, false, false, false, false, false, false, false, false, false, false, false] rfl rfl (any_of HT_.out (by kernel_rfl)) (fun _ _ _ h => h) (Or.inl ⟨by rfl, ?_⟩) ?_ ?_
    rotate_left
    · intro w'
      go_simp
      with_reducible rfl
    rotate_left
    · simp only [Act.put, List.setIfInBounds_toArray, List.set_cons_zero, List.set_cons_succ, i64_w, i32_w]
      rfl
    refine pure_ (i := 2) (N := some 13) (v := ?_) (a' := ?_) #[true, false, true, false, false, false, false, false, false, false, false, false] rfl rfl (any_of HT_.out (by kernel_rfl)) (fun _ _ _ h => h) (Or.inl ⟨by rfl, ?_⟩) ?_ ?_
    rotate_left
    · intro w'
      go_simp
      with_reducible rfl
    rotate_left
    · simp only [Act.put, List.setIfInBounds_toArray, List.set_cons_zero, List.set_cons_succ, i64_w, i32_w]
      rfl
    refine pure_ (i := 4) (N := some 15) (v := ?_) (a' := ?_) #[true, false, true, false, true, false, false, false, false, false, false, false] rfl rfl (any_of HT_.out (by kernel_rfl)) (fun _ _ _ h => h) (Or.inl ⟨by rfl, ?_⟩) ?_ ?_
    rotate_left
    · intro w'
      go_simp
      with_reducible rfl
    rotate_left
    · simp only [Act.put, List.setIfInBounds_toArray, List.set_cons_zero, List.set_cons_succ, i64_w, i32_w]
      rfl
    refine take_ (i := 1) (N := some 12) (v := ?_) (a' := ?_) #[true, true, true, false, true, false, false, false, false, false, false, false] rfl rfl (take_ofW HT_.out HW_.out (by kernel_rfl)) (fun _ _ _ h => h) (Or.inl ⟨by rfl, ?_⟩) hHeld ?_ ?_
    rotate_left
    · rintro w' ⟨s0, s1, s2, s3, s4, s5, s6, s7, s8, s9⟩
      go_simp
      with_reducible rfl
    rotate_left
    · simp only [Act.put, List.setIfInBounds_toArray, List.set_cons_zero, List.set_cons_succ, i64_w, i32_w]
      rfl
    refine pure_ (i := 6) (N := some 17) (v := ?_) (a' := ?_) #[true, true, true, false, true, false, true, false, false, false, false, false] rfl rfl (any_of HT_.out (by kernel_rfl)) (fun _ _ _ h => h) (Or.inl ⟨by rfl, ?_⟩) ?_ ?_
    rotate_left
    · intro w'
      go_simp
      with_reducible rfl
    rotate_left
    · simp only [Act.put, List.setIfInBounds_toArray, List.set_cons_zero, List.set_cons_succ, i64_w, i32_w]
      rfl
    refine take_ (i := 3) (N := some 14) (v := ?_) (a' := ?_) #[true, true, true, true, true, false, true, false, false, false, false, false] rfl rfl (take_ofW HT_.out HW_.out (by kernel_rfl)) (fun _ _ _ h => h) (Or.inl ⟨by rfl, ?_⟩) hHeld ?_ ?_
    rotate_left
    · rintro w' ⟨s0, s1, s2, s3, s4, s5, s6, s7, s8, s9⟩
      go_simp
      with_reducible rfl
    rotate_left
    · simp only [Act.put, List.setIfInBounds_toArray, List.set_cons_zero, List.set_cons_succ, i64_w, i32_w]
      rfl
    refine take_ (i := 5) (N := some 16) (v := ?_) (a' := ?_) #[true, true, true, true, true, true, true, false, false, false, false, false] rfl rfl (take_ofW HT_.out HW_.out (by kernel_rfl)) (fun _ _ _ h => h) (Or.inl ⟨by rfl, ?_⟩) hHeld ?_ ?_
    rotate_left
    · rintro w' ⟨s0, s1, s2, s3, s4, s5, s6, s7, s8, s9⟩
      go_simp
      with_reducible rfl
    rotate_left
    · simp only [Act.put, List.setIfInBounds_toArray, List.set_cons_zero, List.set_cons_succ, i64_w, i32_w]
      rfl
    refine one_ (i := 7) (N := none) #[true, true, true, true, true, true, true, true, false, false, false, false] rfl rfl (one_of HT_.out (by kernel_rfl)) (by decide) (fun K hK => ?_)
    have hs16 : w15.cell? ⟨gb191, 1, none⟩ = some (.int .i64 0) := (blk_cell BK191.out 1).trans rfl
    have hfs16 := blk_frozen BK191.out 1
    have hns16_0 := NB189_191.out
    have hns16_1 := NB190_191.out
    have hms16_0 := NB191_189.out
    have hms16_1 := NB191_190.out
    refine skip_ (w1 := ?_) (by rfl) rfl ?_ ?_
    rotate_left
    · go_simp
      rfl
    refine hK.out _ _ ⟨((cell_far (p := ⟨gb191, _, none⟩) NB189_191.out _).trans (hHeld.1)), ((cell_far (p := ⟨gb191, _, none⟩) NB189_191.out _).trans (hHeld.2.1)), ((cell_far (p := ⟨gb191, _, none⟩) NB189_191.out _).trans (hHeld.2.2.1)), ((cell_far (p := ⟨gb191, _, none⟩) NB189_191.out _).trans (hHeld.2.2.2.1)), ((cell_far (p := ⟨gb191, _, none⟩) NB189_191.out _).trans (hHeld.2.2.2.2.1)), ((cell_far (p := ⟨gb191, _, none⟩) NB189_191.out _).trans (hHeld.2.2.2.2.2.1)), ((cell_far (p := ⟨gb191, _, none⟩) NB189_191.out _).trans (hHeld.2.2.2.2.2.2.1)), ((cell_far (p := ⟨gb191, _, none⟩) NB189_191.out _).trans (hHeld.2.2.2.2.2.2.2.1)), ((cell_far (p := ⟨gb191, _, none⟩) NB189_191.out _).trans (hHeld.2.2.2.2.2.2.2.2.1)), ((cell_far (p := ⟨gb191, _, none⟩) NB189_191.out _).trans (hHeld.2.2.2.2.2.2.2.2.2))⟩ (fun hHeld => ?_)
    clear hK K
    refine pure_ (i := 8) (N := some 18) (v := ?_) (a' := ?_) #[true, true, true, true, true, true, true, true, true, false, false, false] rfl rfl (any_of HT_.out (by kernel_rfl)) (fun _ _ _ h => h) (Or.inl ⟨by rfl, ?_⟩) ?_ ?_
    rotate_left
    · intro w'
      go_simp
      with_reducible rfl
    rotate_left
    · simp only [Act.put, List.setIfInBounds_toArray, List.set_cons_zero, List.set_cons_succ, i64_w, i32_w]
      rfl
    refine one_ (i := 9) (N := none) #[true, true, true, true, true, true, true, true, true, true, false, false] rfl rfl (one_of HT_.out (by kernel_rfl)) (by decide) (fun K hK => ?_)
    have hs17 : w15.cell? ⟨gb191, 2, none⟩ = some (.string (⟨#[]⟩ : ByteArray)) := (blk_cell BK191.out 2).trans rfl
    have hfs17 := blk_frozen BK191.out 2
    have hns17_0 := NB189_191.out
    have hns17_1 := NB190_191.out
    have hms17_0 := NB191_189.out
    have hms17_1 := NB191_190.out
    refine skip_ (w1 := ?_) (by rfl) rfl ?_ ?_
    rotate_left
    · go_simp
      rfl
    refine hK.out _ _ ⟨((cell_far (p := ⟨gb191, _, none⟩) NB189_191.out _).trans (hHeld.1)), ((cell_far (p := ⟨gb191, _, none⟩) NB189_191.out _).trans (hHeld.2.1)), ((cell_far (p := ⟨gb191, _, none⟩) NB189_191.out _).trans (hHeld.2.2.1)), ((cell_far (p := ⟨gb191, _, none⟩) NB189_191.out _).trans (hHeld.2.2.2.1)), ((cell_far (p := ⟨gb191, _, none⟩) NB189_191.out _).trans (hHeld.2.2.2.2.1)), ((cell_far (p := ⟨gb191, _, none⟩) NB189_191.out _).trans (hHeld.2.2.2.2.2.1)), ((cell_far (p := ⟨gb191, _, none⟩) NB189_191.out _).trans (hHeld.2.2.2.2.2.2.1)), ((cell_far (p := ⟨gb191, _, none⟩) NB189_191.out _).trans (hHeld.2.2.2.2.2.2.2.1)), ((cell_far (p := ⟨gb191, _, none⟩) NB189_191.out _).trans (hHeld.2.2.2.2.2.2.2.2.1)), ((cell_far (p := ⟨gb191, _, none⟩) NB189_191.out _).trans (hHeld.2.2.2.2.2.2.2.2.2))⟩ (fun hHeld => ?_)
    clear hK K
    refine pure_ (i := 10) (N := some 19) (v := ?_) (a' := ?_) #[true, true, true, true, true, true, true, true, true, true, true, false] rfl rfl (any_of HT_.out (by kernel_rfl)) (fun _ _ _ h => h) (Or.inl ⟨by rfl, ?_⟩) ?_ ?_
    rotate_left
    · intro w'
      go_simp
      with_reducible rfl
    rotate_left
    · simp only [Act.put, List.setIfInBounds_toArray, List.set_cons_zero, List.set_cons_succ, i64_w, i32_w]
      rfl
    refine one_ (i := 11) (N := none) #[true, true, true, true, true, true, true, true, true, true, true, true] rfl rfl (one_of HT_.out (by kernel_rfl)) (by decide) (fun K hK => ?_)
    have hs18 : w15.cell? ⟨gb191, 3, none⟩ = some (.string (⟨#[]⟩ : ByteArray)) := (blk_cell BK191.out 3).trans rfl
    have hfs18 := blk_frozen BK191.out 3
    have hns18_0 := NB189_191.out
    have hns18_1 := NB190_191.out
    have hms18_0 := NB191_189.out
    have hms18_1 := NB191_190.out
    refine skip_ (w1 := ?_) (by rfl) rfl ?_ ?_
    rotate_left
    · go_simp
      rfl
    refine hK.out _ _ ⟨((cell_far (p := ⟨gb191, _, none⟩) NB189_191.out _).trans (hHeld.1)), ((cell_far (p := ⟨gb191, _, none⟩) NB189_191.out _).trans (hHeld.2.1)), ((cell_far (p := ⟨gb191, _, none⟩) NB189_191.out _).trans (hHeld.2.2.1)), ((cell_far (p := ⟨gb191, _, none⟩) NB189_191.out _).trans (hHeld.2.2.2.1)), ((cell_far (p := ⟨gb191, _, none⟩) NB189_191.out _).trans (hHeld.2.2.2.2.1)), ((cell_far (p := ⟨gb191, _, none⟩) NB189_191.out _).trans (hHeld.2.2.2.2.2.1)), ((cell_far (p := ⟨gb191, _, none⟩) NB189_191.out _).trans (hHeld.2.2.2.2.2.2.1)), ((cell_far (p := ⟨gb191, _, none⟩) NB189_191.out _).trans (hHeld.2.2.2.2.2.2.2.1)), ((cell_far (p := ⟨gb191, _, none⟩) NB189_191.out _).trans (hHeld.2.2.2.2.2.2.2.2.1)), ((cell_far (p := ⟨gb191, _, none⟩) NB189_191.out _).trans (hHeld.2.2.2.2.2.2.2.2.2))⟩ (fun hHeld => ?_)
    clear hK K
    refine done_ (done_of HT_.out (by kernel_rfl)) ?_
    have hcz19_0 : w15.cell? ⟨gb191, 0, none⟩ = some (.int .i64 a0_0) := (blk_cell BK191.out 0).trans rfl
    have hcz19_1 : w15.cell? ⟨gb191, 1, none⟩ = some (.int .i64 0) := (blk_cell BK191.out 1).trans rfl
    have hcz19_2 : w15.cell? ⟨gb191, 2, none⟩ = some (.string (⟨#[]⟩ : ByteArray)) := (blk_cell BK191.out 2).trans rfl
    have hcz19_3 : w15.cell? ⟨gb191, 3, none⟩ = some (.string (⟨#[]⟩ : ByteArray)) := (blk_cell BK191.out 3).trans rfl
    have hcz19_4 : w15.cell? ⟨gb191, 4, none⟩ = some (.slice none 0 0) := (blk_cell BK191.out 4).trans rfl
    have hcz19_5 : w15.cell? ⟨gb191, 5, none⟩ = some (.int .i64 0) := (blk_cell BK191.out 5).trans rfl
    have hcz19_6 : w15.cell? ⟨gb191, 6, none⟩ = some (.slice none 0 0) := (blk_cell BK191.out 6).trans rfl
    have hcz19_7 : w15.cell? ⟨gb191, 7, none⟩ = some (.int .i64 0) := (blk_cell BK191.out 7).trans rfl
    have hcz19_8 : w15.cell? ⟨gb191, 8, none⟩ = some (.int .i64 0) := (blk_cell BK191.out 8).trans rfl
    have hcz19_9 : w15.cell? ⟨gb191, 9, none⟩ = some (.int .i64 0) := (blk_cell BK191.out 9).trans rfl
    have hfz19_0 := blk_frozen BK191.out 0
    have hfz19_1 := blk_frozen BK191.out 1
    have hfz19_2 := blk_frozen BK191.out 2
    have hfz19_3 := blk_frozen BK191.out 3
    have hfz19_4 := blk_frozen BK191.out 4
    have hfz19_5 := blk_frozen BK191.out 5
    have hfz19_6 := blk_frozen BK191.out 6
    have hfz19_7 := blk_frozen BK191.out 7
    have hfz19_8 := blk_frozen BK191.out 8
    have hfz19_9 := blk_frozen BK191.out 9
    have hcz20_0 : w15.cell? ⟨gb190, 0, none⟩ = some (.int .i64 0) := (blk_cell BK190.out 0).trans rfl
    have hcz20_1 : w15.cell? ⟨gb190, 1, none⟩ = some (.int .i64 0) := (blk_cell BK190.out 1).trans rfl
    have hcz20_2 : w15.cell? ⟨gb190, 2, none⟩ = some (.string (⟨#[]⟩ : ByteArray)) := (blk_cell BK190.out 2).trans rfl
    have hcz20_3 : w15.cell? ⟨gb190, 3, none⟩ = some (.string (⟨#[]⟩ : ByteArray)) := (blk_cell BK190.out 3).trans rfl
    have hcz20_4 : w15.cell? ⟨gb190, 4, none⟩ = some (.slice none 0 0) := (blk_cell BK190.out 4).trans rfl
    have hcz20_5 : w15.cell? ⟨gb190, 5, none⟩ = some (.int .i64 0) := (blk_cell BK190.out 5).trans rfl
    have hcz20_6 : w15.cell? ⟨gb190, 6, none⟩ = some (.slice none 0 0) := (blk_cell BK190.out 6).trans rfl
    have hcz20_7 : w15.cell? ⟨gb190, 7, none⟩ = some (.int .i64 0) := (blk_cell BK190.out 7).trans rfl
    have hcz20_8 : w15.cell? ⟨gb190, 8, none⟩ = some (.int .i64 0) := (blk_cell BK190.out 8).trans rfl
    have hcz20_9 : w15.cell? ⟨gb190, 9, none⟩ = some (.int .i64 0) := (blk_cell BK190.out 9).trans rfl
    have hfz20_0 := blk_frozen BK190.out 0
    have hfz20_1 := blk_frozen BK190.out 1
    have hfz20_2 := blk_frozen BK190.out 2
    have hfz20_3 := blk_frozen BK190.out 3
    have hfz20_4 := blk_frozen BK190.out 4
    have hfz20_5 := blk_frozen BK190.out 5
    have hfz20_6 := blk_frozen BK190.out 6
    have hfz20_7 := blk_frozen BK190.out 7
    have hfz20_8 := blk_frozen BK190.out 8
    have hfz20_9 := blk_frozen BK190.out 9
    try go_wp2
    refine bodyPost_ret (results_cell_row rfl _ _ gb190 61 #[.int .i64 a0_0, .int .i64 a0_1, .string a0_2, .string a0_3, .slice none 0 0, .int .i64 0, .slice none 0 0, .int .i64 0, .int .i64 0, .int .i64 0] (0, 0) _ rfl (by (with_reducible repeat (first | refine blk_drewN ?_ _ | refine blk_drew ?_ | refine blk_alloc ?_ _)); refine blk_put (cs := #[.int .i64 a0_0, .int .i64 a0_1, .string a0_2, .string a0_3, .slice none 0 0, .int .i64 0, .slice none 0 0, .int .i64 0, .int .i64 0, .int .i64 0]) ?_ 9 _ rfl; (with_reducible repeat (first | refine blk_drewN ?_ _ | refine blk_drew ?_ | refine blk_alloc ?_ _)); refine blk_put (cs := #[.int .i64 a0_0, .int .i64 a0_1, .string a0_2, .string a0_3, .slice none 0 0, .int .i64 0, .slice none 0 0, .int .i64 0, .int .i64 0, .int .i64 0]) ?_ 8 _ rfl; (with_reducible repeat (first | refine blk_drewN ?_ _ | refine blk_drew ?_ | refine blk_alloc ?_ _)); refine blk_put (cs := #[.int .i64 a0_0, .int .i64 a0_1, .string a0_2, .string a0_3, .slice none 0 0, .int .i64 0, .slice none 0 0, .int .i64 0, .int .i64 0, .int .i64 0]) ?_ 7 _ rfl; (with_reducible repeat (first | refine blk_drewN ?_ _ | refine blk_drew ?_ | refine blk_alloc ?_ _)); refine blk_put (cs := #[.int .i64 a0_0, .int .i64 a0_1, .string a0_2, .string a0_3, .slice none 0 0, .int .i64 0, .slice none 0 0, .int .i64 0, .int .i64 0, .int .i64 0]) ?_ 6 _ rfl; (with_reducible repeat (first | refine blk_drewN ?_ _ | refine blk_drew ?_ | refine blk_alloc ?_ _)); refine blk_put (cs := #[.int .i64 a0_0, .int .i64 a0_1, .string a0_2, .string a0_3, .slice none 0 0, .int .i64 0, .slice none 0 0, .int .i64 0, .int .i64 0, .int .i64 0]) ?_ 5 _ rfl; (with_reducible repeat (first | refine blk_drewN ?_ _ | refine blk_drew ?_ | refine blk_alloc ?_ _)); refine blk_put (cs := #[.int .i64 a0_0, .int .i64 a0_1, .string a0_2, .string a0_3, .slice none 0 0, .int .i64 0, .slice none 0 0, .int .i64 0, .int .i64 0, .int .i64 0]) ?_ 4 _ rfl; (with_reducible repeat (first | refine blk_drewN ?_ _ | refine blk_drew ?_ | refine blk_alloc ?_ _)); refine blk_put (cs := #[.int .i64 a0_0, .int .i64 a0_1, .string a0_2, .string (⟨#[]⟩ : ByteArray), .slice none 0 0, .int .i64 0, .slice none 0 0, .int .i64 0, .int .i64 0, .int .i64 0]) ?_ 3 _ rfl; (with_reducible repeat (first | refine blk_drewN ?_ _ | refine blk_drew ?_ | refine blk_alloc ?_ _)); refine blk_put (cs := #[.int .i64 a0_0, .int .i64 a0_1, .string (⟨#[]⟩ : ByteArray), .string (⟨#[]⟩ : ByteArray), .slice none 0 0, .int .i64 0, .slice none 0 0, .int .i64 0, .int .i64 0, .int .i64 0]) ?_ 2 _ rfl; (with_reducible repeat (first | refine blk_drewN ?_ _ | refine blk_drew ?_ | refine blk_alloc ?_ _)); refine blk_put (cs := #[.int .i64 a0_0, .int .i64 0, .string (⟨#[]⟩ : ByteArray), .string (⟨#[]⟩ : ByteArray), .slice none 0 0, .int .i64 0, .slice none 0 0, .int .i64 0, .int .i64 0, .int .i64 0]) ?_ 1 _ rfl; (with_reducible repeat (first | refine blk_drewN ?_ _ | refine blk_drew ?_ | refine blk_alloc ?_ _)); refine blk_put (cs := #[.int .i64 0, .int .i64 0, .string (⟨#[]⟩ : ByteArray), .string (⟨#[]⟩ : ByteArray), .slice none 0 0, .int .i64 0, .slice none 0 0, .int .i64 0, .int .i64 0, .int .i64 0]) ?_ 0 _ rfl; (with_reducible repeat (first | refine blk_drewN ?_ _ | refine blk_drew ?_ | refine blk_alloc ?_ _)); refine blk_far ?_ NB190_191.out _; (with_reducible repeat (first | refine blk_drewN ?_ _ | refine blk_drew ?_ | refine blk_alloc ?_ _)); refine blk_far ?_ NB190_191.out _; (with_reducible repeat (first | refine blk_drewN ?_ _ | refine blk_drew ?_ | refine blk_alloc ?_ _)); refine blk_far ?_ NB190_191.out _; (with_reducible repeat (first | refine blk_drewN ?_ _ | refine blk_drew ?_ | refine blk_alloc ?_ _)); exact BK190.out) Tryd.underlying61 rfl (by kernel_rfl)) rfl ?_
    exact ⟨_, _, by first | rfl | (simp [errW_none, errW_some] <;> rfl) | (simp [*, errW_none, errW_some] <;> rfl), by first | exact Kd.R_nil _ _ _ _ _ | exact Kd.N_nil _ _ _ _ _ | exact Kd.V_nil _ _ _ _ _ | exact Kd.Q_nil _ _ _ _ _ | exact Kd.S_nil _ _ _ _ _, by first | exact Kd.R_nil _ _ _ _ _ | exact Kd.N_nil _ _ _ _ _ | exact Kd.V_nil _ _ _ _ _ | exact Kd.Q_nil _ _ _ _ _ | exact Kd.S_nil _ _ _ _ _, by repeat (first | (with_reducible first | exact HB.out | apply below_alloc | apply pw_below_drewN | apply below_drew1 | refine below_set ?_ GE189.out | refine below_set ?_ GE190.out | refine below_set ?_ GE191.out) | exact HB.out), by repeat (first | (with_reducible first | exact HK.out | apply Kept.alloc | apply Kept.drewN | apply Kept.drew | refine Kept.setCell ?_ (.inr GW189.out) _ | refine Kept.setCell ?_ (.inr GW190.out) _ | refine Kept.setCell ?_ (.inr GW191.out) _) | exact HK.out)⟩
  · rw [if_neg c2] at H
    have c2b0 : (a0_0 == 2) = false := beq_eq_false_iff_ne.mpr c2
    have c2b1 : (a0_0 != 2) = true := bne_iff_ne.mpr c2
    by_cases c21 : a0_0 = 3
    · rw [if_pos c21] at H
      have c21b0 : (a0_0 == 3) = true := beq_iff_eq.mpr c21
      have c21b1 : (a0_0 != 3) = false := bne_eq_false_iff_eq.mpr c21
      clear c21
      simp only [Option.some.injEq, Prod.mk.injEq] at H
      obtain ⟨rfl, rfl, rfl, rfl, rfl, rfl, rfl, rfl, rfl, rfl⟩ := H
      obtain ⟨Ao22, co22, eo22⟩ := Kd.R_slice HO0_4.out
      subst eo22
      obtain ⟨Ao23, co23, eo23⟩ := Kd.R_slice HO0_6.out
      subst eo23
      go_enter Tryd.func49, Tryd.ntmps49
      try go_wp2_with (first | ((with_reducible refine gate_dst (N := 1) rfl ?_); refine box_event ?hg (N := 1) ?hd (cs := #[.int .i64 a0_0, .int .i64 a0_1, .string a0_2, .string a0_3, .slice Ao22 l0_4.length co22, .int .i64 a0_5, .slice Ao23 l0_6.length co23, .int .i64 a0_7, .int .i64 a0_8, .int .i64 a0_9]) (t := 61) ?hr ?_; (case hd => rfl); (case hg => rfl); (case hr => first | (go_simp; done) | (go_simp; rfl)); intro gb189 hg w24 hbox hb; have n0_ := Aside0.mk (Kd.R_below (by (with_reducible repeat (first | apply Kd.R_alloc | apply Kd.R_drewN | apply Kd.R_drew)); exact HO0_4.out) hb); have n1_ := Aside0.mk (Kd.R_below (by (with_reducible repeat (first | apply Kd.R_alloc | apply Kd.R_drewN | apply Kd.R_drew)); exact HO0_6.out) hb); have n2_ := Aside0.mk (Kept.below (S := (fun k_ => P0_4_ k_ ∨ P0_6_ k_)) (by repeat (first | (with_reducible first | exact HK.out | apply Kept.alloc | apply Kept.drewN | apply Kept.drew) | exact HK.out)) hb); have n3_ := Aside0.mk (below_step (by repeat (first | (with_reducible first | exact HB.out | apply below_alloc | apply pw_below_drewN | apply below_drew1) | exact HB.out)) hb); have n4_ := Aside0.mk (hbox); have n5_ := Aside0.mk ((by rw [hg]; exact (by first | exact HK.out.1 | exact (show Kept w _ (fun k_ => P0_4_ k_ ∨ P0_6_ k_) from by repeat (first | (with_reducible first | exact HK.out | apply Kept.alloc | apply Kept.drewN | apply Kept.drew) | exact HK.out)).1) : w.heap.size ≤ gb189)); have n6_ := Aside0.mk ((by rw [hg]; exact (below_size (by repeat (first | (with_reducible first | exact HB.out | apply below_alloc | apply pw_below_drewN | apply below_drew1) | exact HB.out))) : w0.heap.size ≤ gb189)); clear HO0_4; clear HO0_6; clear HK; clear HB; have HO0_4 := n0_; have HO0_6 := n1_; have HK := n2_; have HB := n3_; have BK189 := n4_; have GW189 := n5_; have GE189 := n6_; clear n0_ n1_ n2_ n3_ n4_ n5_ n6_; clear hb hbox hg) | ((with_reducible refine gate_dst (N := 2) rfl ?_); refine box_event ?hg (N := 2) ?hd (cs := #[.int .i64 0, .int .i64 0, .string (⟨#[]⟩ : ByteArray), .string (⟨#[]⟩ : ByteArray), .slice none 0 0, .int .i64 0, .slice none 0 0, .int .i64 0, .int .i64 0, .int .i64 0]) (t := 61) ?hr ?_; (case hd => rfl); (case hg => rfl); (case hr => first | (go_simp; done) | (go_simp; rfl)); intro gb190 hg w25 hbox hb; have n0_ := Aside0.mk (Kd.R_below (by (with_reducible repeat (first | apply Kd.R_alloc | apply Kd.R_drewN | apply Kd.R_drew)); exact HO0_4.out) hb); have n1_ := Aside0.mk (Kd.R_below (by (with_reducible repeat (first | apply Kd.R_alloc | apply Kd.R_drewN | apply Kd.R_drew)); exact HO0_6.out) hb); have n2_ := Aside0.mk (blk_below (g := gb189) (o := .cells #[.int .i64 a0_0, .int .i64 a0_1, .string a0_2, .string a0_3, .slice Ao22 l0_4.length co22, .int .i64 a0_5, .slice Ao23 l0_6.length co23, .int .i64 a0_7, .int .i64 a0_8, .int .i64 a0_9] 61 (0, 0)) (by (with_reducible repeat (first | refine blk_drewN ?_ _ | refine blk_drew ?_ | refine blk_alloc ?_ _)); exact BK189.out) hb); have n3_ := Aside0.mk (Kept.below (S := (fun k_ => P0_4_ k_ ∨ P0_6_ k_)) (by repeat (first | (with_reducible first | exact HK.out | apply Kept.alloc | apply Kept.drewN | apply Kept.drew | refine Kept.setCell ?_ (.inr GW189.out) _) | exact HK.out)) hb); have n4_ := Aside0.mk (below_step (by repeat (first | (with_reducible first | exact HB.out | apply below_alloc | apply pw_below_drewN | apply below_drew1 | refine below_set ?_ GE189.out) | exact HB.out)) hb); have n5_ := Aside0.mk (hbox); have n6_ := Aside0.mk ((by rw [hg]; exact (by first | exact HK.out.1 | exact (show Kept w _ (fun k_ => P0_4_ k_ ∨ P0_6_ k_) from by repeat (first | (with_reducible first | exact HK.out | apply Kept.alloc | apply Kept.drewN | apply Kept.drew | refine Kept.setCell ?_ (.inr GW189.out) _) | exact HK.out)).1) : w.heap.size ≤ gb190)); have n7_ := Aside0.mk ((by rw [hg]; exact (below_size (by repeat (first | (with_reducible first | exact HB.out | apply below_alloc | apply pw_below_drewN | apply below_drew1 | refine below_set ?_ GE189.out) | exact HB.out))) : w0.heap.size ≤ gb190)); have n8_ := Aside0.mk ((by rw [hg]; exact Nat.ne_of_lt (blk_lt (g := gb189) (o := .cells #[.int .i64 a0_0, .int .i64 a0_1, .string a0_2, .string a0_3, .slice Ao22 l0_4.length co22, .int .i64 a0_5, .slice Ao23 l0_6.length co23, .int .i64 a0_7, .int .i64 a0_8, .int .i64 a0_9] 61 (0, 0)) (by (with_reducible repeat (first | refine blk_drewN ?_ _ | refine blk_drew ?_ | refine blk_alloc ?_ _)); exact BK189.out)) : gb189 ≠ gb190)); have n9_ := Aside0.mk ((by rw [hg]; exact Nat.ne_of_gt (blk_lt (g := gb189) (o := .cells #[.int .i64 a0_0, .int .i64 a0_1, .string a0_2, .string a0_3, .slice Ao22 l0_4.length co22, .int .i64 a0_5, .slice Ao23 l0_6.length co23, .int .i64 a0_7, .int .i64 a0_8, .int .i64 a0_9] 61 (0, 0)) (by (with_reducible repeat (first | refine blk_drewN ?_ _ | refine blk_drew ?_ | refine blk_alloc ?_ _)); exact BK189.out)) : gb190 ≠ gb189)); clear HO0_4; clear HO0_6; clear BK189; clear HK; clear HB; have HO0_4 := n0_; have HO0_6 := n1_; have BK189 := n2_; have HK := n3_; have HB := n4_; have BK190 := n5_; have GW190 := n6_; have GE190 := n7_; have NB189_190 := n8_; have NB190_189 := n9_; clear n0_ n1_ n2_ n3_ n4_ n5_ n6_ n7_ n8_ n9_; clear hb hbox hg; have hnb26 := NB189_190.out; have hnc26 := NB190_189.out; have hcz27_0 : w25.cell? ⟨gb189, 0, none⟩ = some (.int .i64 a0_0) := (blk_cell BK189.out 0).trans rfl; have hcz27_1 : w25.cell? ⟨gb189, 1, none⟩ = some (.int .i64 a0_1) := (blk_cell BK189.out 1).trans rfl; have hcz27_2 : w25.cell? ⟨gb189, 2, none⟩ = some (.string a0_2) := (blk_cell BK189.out 2).trans rfl; have hcz27_3 : w25.cell? ⟨gb189, 3, none⟩ = some (.string a0_3) := (blk_cell BK189.out 3).trans rfl; have hcz27_4 : w25.cell? ⟨gb189, 4, none⟩ = some (.slice Ao22 l0_4.length co22) := (blk_cell BK189.out 4).trans rfl; have hcz27_5 : w25.cell? ⟨gb189, 5, none⟩ = some (.int .i64 a0_5) := (blk_cell BK189.out 5).trans rfl; have hcz27_6 : w25.cell? ⟨gb189, 6, none⟩ = some (.slice Ao23 l0_6.length co23) := (blk_cell BK189.out 6).trans rfl; have hcz27_7 : w25.cell? ⟨gb189, 7, none⟩ = some (.int .i64 a0_7) := (blk_cell BK189.out 7).trans rfl; have hcz27_8 : w25.cell? ⟨gb189, 8, none⟩ = some (.int .i64 a0_8) := (blk_cell BK189.out 8).trans rfl; have hcz27_9 : w25.cell? ⟨gb189, 9, none⟩ = some (.int .i64 a0_9) := (blk_cell BK189.out 9).trans rfl; have hfz27_0 := blk_frozen BK189.out 0; have hfz27_1 := blk_frozen BK189.out 1; have hfz27_2 := blk_frozen BK189.out 2; have hfz27_3 := blk_frozen BK189.out 3; have hfz27_4 := blk_frozen BK189.out 4; have hfz27_5 := blk_frozen BK189.out 5; have hfz27_6 := blk_frozen BK189.out 6; have hfz27_7 := blk_frozen BK189.out 7; have hfz27_8 := blk_frozen BK189.out 8; have hfz27_9 := blk_frozen BK189.out 9) | ((with_reducible refine gate_dst (N := 3) rfl ?_); refine box_event ?hg (N := 3) ?hd (cs := #[.int .i64 0, .int .i64 0, .string (⟨#[]⟩ : ByteArray), .string (⟨#[]⟩ : ByteArray), .slice none 0 0, .int .i64 0, .slice none 0 0, .int .i64 0, .int .i64 0, .int .i64 0]) (t := 61) ?hr ?_; (case hd => rfl); (case hg => rfl); (case hr => first | (go_simp; done) | (go_simp; rfl)); intro gb191 hg w28 hbox hb; have n0_ := Aside0.mk (Kd.R_below (by (with_reducible repeat (first | apply Kd.R_alloc | apply Kd.R_drewN | apply Kd.R_drew)); exact HO0_4.out) hb); have n1_ := Aside0.mk (Kd.R_below (by (with_reducible repeat (first | apply Kd.R_alloc | apply Kd.R_drewN | apply Kd.R_drew)); exact HO0_6.out) hb); have n2_ := Aside0.mk (blk_below (g := gb189) (o := .cells #[.int .i64 a0_0, .int .i64 a0_1, .string a0_2, .string a0_3, .slice Ao22 l0_4.length co22, .int .i64 a0_5, .slice Ao23 l0_6.length co23, .int .i64 a0_7, .int .i64 a0_8, .int .i64 a0_9] 61 (0, 0)) (by (with_reducible repeat (first | refine blk_drewN ?_ _ | refine blk_drew ?_ | refine blk_alloc ?_ _)); exact BK189.out) hb); have n3_ := Aside0.mk (blk_below (g := gb190) (o := .cells #[.int .i64 0, .int .i64 0, .string (⟨#[]⟩ : ByteArray), .string (⟨#[]⟩ : ByteArray), .slice none 0 0, .int .i64 0, .slice none 0 0, .int .i64 0, .int .i64 0, .int .i64 0] 61 (0, 0)) (by (with_reducible repeat (first | refine blk_drewN ?_ _ | refine blk_drew ?_ | refine blk_alloc ?_ _)); exact BK190.out) hb); have n4_ := Aside0.mk (Kept.below (S := (fun k_ => P0_4_ k_ ∨ P0_6_ k_)) (by repeat (first | (with_reducible first | exact HK.out | apply Kept.alloc | apply Kept.drewN | apply Kept.drew | refine Kept.setCell ?_ (.inr GW189.out) _ | refine Kept.setCell ?_ (.inr GW190.out) _) | exact HK.out)) hb); have n5_ := Aside0.mk (below_step (by repeat (first | (with_reducible first | exact HB.out | apply below_alloc | apply pw_below_drewN | apply below_drew1 | refine below_set ?_ GE189.out | refine below_set ?_ GE190.out) | exact HB.out)) hb); have n6_ := Aside0.mk (hbox); have n7_ := Aside0.mk ((by rw [hg]; exact (by first | exact HK.out.1 | exact (show Kept w _ (fun k_ => P0_4_ k_ ∨ P0_6_ k_) from by repeat (first | (with_reducible first | exact HK.out | apply Kept.alloc | apply Kept.drewN | apply Kept.drew | refine Kept.setCell ?_ (.inr GW189.out) _ | refine Kept.setCell ?_ (.inr GW190.out) _) | exact HK.out)).1) : w.heap.size ≤ gb191)); have n8_ := Aside0.mk ((by rw [hg]; exact (below_size (by repeat (first | (with_reducible first | exact HB.out | apply below_alloc | apply pw_below_drewN | apply below_drew1 | refine below_set ?_ GE189.out | refine below_set ?_ GE190.out) | exact HB.out))) : w0.heap.size ≤ gb191)); have n9_ := Aside0.mk ((by rw [hg]; exact Nat.ne_of_lt (blk_lt (g := gb189) (o := .cells #[.int .i64 a0_0, .int .i64 a0_1, .string a0_2, .string a0_3, .slice Ao22 l0_4.length co22, .int .i64 a0_5, .slice Ao23 l0_6.length co23, .int .i64 a0_7, .int .i64 a0_8, .int .i64 a0_9] 61 (0, 0)) (by (with_reducible repeat (first | refine blk_drewN ?_ _ | refine blk_drew ?_ | refine blk_alloc ?_ _)); exact BK189.out)) : gb189 ≠ gb191)); have n10_ := Aside0.mk ((by rw [hg]; exact Nat.ne_of_gt (blk_lt (g := gb189) (o := .cells #[.int .i64 a0_0, .int .i64 a0_1, .string a0_2, .string a0_3, .slice Ao22 l0_4.length co22, .int .i64 a0_5, .slice Ao23 l0_6.length co23, .int .i64 a0_7, .int .i64 a0_8, .int .i64 a0_9] 61 (0, 0)) (by (with_reducible repeat (first | refine blk_drewN ?_ _ | refine blk_drew ?_ | refine blk_alloc ?_ _)); exact BK189.out)) : gb191 ≠ gb189)); have n11_ := Aside0.mk ((by rw [hg]; exact Nat.ne_of_lt (blk_lt (g := gb190) (o := .cells #[.int .i64 0, .int .i64 0, .string (⟨#[]⟩ : ByteArray), .string (⟨#[]⟩ : ByteArray), .slice none 0 0, .int .i64 0, .slice none 0 0, .int .i64 0, .int .i64 0, .int .i64 0] 61 (0, 0)) (by (with_reducible repeat (first | refine blk_drewN ?_ _ | refine blk_drew ?_ | refine blk_alloc ?_ _)); exact BK190.out)) : gb190 ≠ gb191)); have n12_ := Aside0.mk ((by rw [hg]; exact Nat.ne_of_gt (blk_lt (g := gb190) (o := .cells #[.int .i64 0, .int .i64 0, .string (⟨#[]⟩ : ByteArray), .string (⟨#[]⟩ : ByteArray), .slice none 0 0, .int .i64 0, .slice none 0 0, .int .i64 0, .int .i64 0, .int .i64 0] 61 (0, 0)) (by (with_reducible repeat (first | refine blk_drewN ?_ _ | refine blk_drew ?_ | refine blk_alloc ?_ _)); exact BK190.out)) : gb191 ≠ gb190)); clear HO0_4; clear HO0_6; clear BK189; clear BK190; clear HK; clear HB; have HO0_4 := n0_; have HO0_6 := n1_; have BK189 := n2_; have BK190 := n3_; have HK := n4_; have HB := n5_; have BK191 := n6_; have GW191 := n7_; have GE191 := n8_; have NB189_191 := n9_; have NB191_189 := n10_; have NB190_191 := n11_; have NB191_190 := n12_; clear n0_ n1_ n2_ n3_ n4_ n5_ n6_ n7_ n8_ n9_ n10_ n11_ n12_; clear hb hbox hg; have hnb29 := NB191_189.out; have hnc29 := NB189_191.out; have hnb30 := NB191_190.out; have hnc30 := NB190_191.out; have hcz31_0 : w28.cell? ⟨gb191, 0, none⟩ = some (.int .i64 0) := (blk_cell BK191.out 0).trans rfl; have hcz31_1 : w28.cell? ⟨gb191, 1, none⟩ = some (.int .i64 0) := (blk_cell BK191.out 1).trans rfl; have hcz31_2 : w28.cell? ⟨gb191, 2, none⟩ = some (.string (⟨#[]⟩ : ByteArray)) := (blk_cell BK191.out 2).trans rfl; have hcz31_3 : w28.cell? ⟨gb191, 3, none⟩ = some (.string (⟨#[]⟩ : ByteArray)) := (blk_cell BK191.out 3).trans rfl; have hcz31_4 : w28.cell? ⟨gb191, 4, none⟩ = some (.slice none 0 0) := (blk_cell BK191.out 4).trans rfl; have hcz31_5 : w28.cell? ⟨gb191, 5, none⟩ = some (.int .i64 0) := (blk_cell BK191.out 5).trans rfl; have hcz31_6 : w28.cell? ⟨gb191, 6, none⟩ = some (.slice none 0 0) := (blk_cell BK191.out 6).trans rfl; have hcz31_7 : w28.cell? ⟨gb191, 7, none⟩ = some (.int .i64 0) := (blk_cell BK191.out 7).trans rfl; have hcz31_8 : w28.cell? ⟨gb191, 8, none⟩ = some (.int .i64 0) := (blk_cell BK191.out 8).trans rfl; have hcz31_9 : w28.cell? ⟨gb191, 9, none⟩ = some (.int .i64 0) := (blk_cell BK191.out 9).trans rfl; have hfz31_0 := blk_frozen BK191.out 0; have hfz31_1 := blk_frozen BK191.out 1; have hfz31_2 := blk_frozen BK191.out 2; have hfz31_3 := blk_frozen BK191.out 3; have hfz31_4 := blk_frozen BK191.out 4; have hfz31_5 := blk_frozen BK191.out 5; have hfz31_6 := blk_frozen BK191.out 6; have hfz31_7 := blk_frozen BK191.out 7; have hfz31_8 := blk_frozen BK191.out 8; have hfz31_9 := blk_frozen BK191.out 9; have hcz32_0 : w28.cell? ⟨gb189, 0, none⟩ = some (.int .i64 a0_0) := (blk_cell BK189.out 0).trans rfl; have hcz32_1 : w28.cell? ⟨gb189, 1, none⟩ = some (.int .i64 a0_1) := (blk_cell BK189.out 1).trans rfl; have hcz32_2 : w28.cell? ⟨gb189, 2, none⟩ = some (.string a0_2) := (blk_cell BK189.out 2).trans rfl; have hcz32_3 : w28.cell? ⟨gb189, 3, none⟩ = some (.string a0_3) := (blk_cell BK189.out 3).trans rfl; have hcz32_4 : w28.cell? ⟨gb189, 4, none⟩ = some (.slice Ao22 l0_4.length co22) := (blk_cell BK189.out 4).trans rfl; have hcz32_5 : w28.cell? ⟨gb189, 5, none⟩ = some (.int .i64 a0_5) := (blk_cell BK189.out 5).trans rfl; have hcz32_6 : w28.cell? ⟨gb189, 6, none⟩ = some (.slice Ao23 l0_6.length co23) := (blk_cell BK189.out 6).trans rfl; have hcz32_7 : w28.cell? ⟨gb189, 7, none⟩ = some (.int .i64 a0_7) := (blk_cell BK189.out 7).trans rfl; have hcz32_8 : w28.cell? ⟨gb189, 8, none⟩ = some (.int .i64 a0_8) := (blk_cell BK189.out 8).trans rfl; have hcz32_9 : w28.cell? ⟨gb189, 9, none⟩ = some (.int .i64 a0_9) := (blk_cell BK189.out 9).trans rfl; have hfz32_0 := blk_frozen BK189.out 0; have hfz32_1 := blk_frozen BK189.out 1; have hfz32_2 := blk_frozen BK189.out 2; have hfz32_3 := blk_frozen BK189.out 3; have hfz32_4 := blk_frozen BK189.out 4; have hfz32_5 := blk_frozen BK189.out 5; have hfz32_6 := blk_frozen BK189.out 6; have hfz32_7 := blk_frozen BK189.out 7; have hfz32_8 := blk_frozen BK189.out 8; have hfz32_9 := blk_frozen BK189.out 9))
      have n0_ : Aside0 (Kd.R Kd.string 9 ((((((((((w28.setCell ⟨gb191, 0, none⟩ (.int .i64 a0_0)).setCell ⟨gb191, 1, none⟩ (.int .i64 0)).setCell ⟨gb191, 2, none⟩ (.string (⟨#[]⟩ : ByteArray))).setCell ⟨gb191, 3, none⟩ (.string (⟨#[]⟩ : ByteArray))).setCell ⟨gb191, 4, none⟩ (.slice none 0 0)).setCell ⟨gb191, 5, none⟩ (.int .i64 0)).setCell ⟨gb191, 6, none⟩ (.slice none 0 0)).setCell ⟨gb191, 7, none⟩ (.int .i64 0)).setCell ⟨gb191, 8, none⟩ (.int .i64 0)).setCell ⟨gb191, 9, none⟩ (.int .i64 0)) w0.heap.size (fun k_ => ((P0_4_ k_ ∨ P0_6_ k_) ∨ w.heap.size ≤ k_)) (.slice Ao22 l0_4.length co22) l0_4) := ⟨by (with_reducible repeat (first | apply Kd.R_alloc | apply Kd.R_drewN | apply Kd.R_drew)); exact Kd.R_mono (Kd.R_far (p := ⟨gb191, 9, none⟩) (Kd.R_far (p := ⟨gb191, 8, none⟩) (Kd.R_far (p := ⟨gb191, 7, none⟩) (Kd.R_far (p := ⟨gb191, 6, none⟩) (Kd.R_far (p := ⟨gb191, 5, none⟩) (Kd.R_far (p := ⟨gb191, 4, none⟩) (Kd.R_far (p := ⟨gb191, 3, none⟩) (Kd.R_far (p := ⟨gb191, 2, none⟩) (Kd.R_far (p := ⟨gb191, 1, none⟩) (Kd.R_far (p := ⟨gb191, 0, none⟩) (Kd.R_types HO0_4.out BK191.out (by decide)) (fun _ hk => hk.2) (.int .i64 a0_0)) (fun _ hk => hk.2) (.int .i64 0)) (fun _ hk => hk.2) (.string (⟨#[]⟩ : ByteArray))) (fun _ hk => hk.2) (.string (⟨#[]⟩ : ByteArray))) (fun _ hk => hk.2) (.slice none 0 0)) (fun _ hk => hk.2) (.int .i64 0)) (fun _ hk => hk.2) (.slice none 0 0)) (fun _ hk => hk.2) (.int .i64 0)) (fun _ hk => hk.2) (.int .i64 0)) (fun _ hk => hk.2) (.int .i64 0)) (fun _ hk => hk.1)⟩
      have n1_ : Aside0 (Kd.R (Kd.int .i64) 3 ((((((((((w28.setCell ⟨gb191, 0, none⟩ (.int .i64 a0_0)).setCell ⟨gb191, 1, none⟩ (.int .i64 0)).setCell ⟨gb191, 2, none⟩ (.string (⟨#[]⟩ : ByteArray))).setCell ⟨gb191, 3, none⟩ (.string (⟨#[]⟩ : ByteArray))).setCell ⟨gb191, 4, none⟩ (.slice none 0 0)).setCell ⟨gb191, 5, none⟩ (.int .i64 0)).setCell ⟨gb191, 6, none⟩ (.slice none 0 0)).setCell ⟨gb191, 7, none⟩ (.int .i64 0)).setCell ⟨gb191, 8, none⟩ (.int .i64 0)).setCell ⟨gb191, 9, none⟩ (.int .i64 0)) w0.heap.size (fun k_ => ((P0_4_ k_ ∨ P0_6_ k_) ∨ w.heap.size ≤ k_)) (.slice Ao23 l0_6.length co23) l0_6) := ⟨by (with_reducible repeat (first | apply Kd.R_alloc | apply Kd.R_drewN | apply Kd.R_drew)); exact Kd.R_mono (Kd.R_far (p := ⟨gb191, 9, none⟩) (Kd.R_far (p := ⟨gb191, 8, none⟩) (Kd.R_far (p := ⟨gb191, 7, none⟩) (Kd.R_far (p := ⟨gb191, 6, none⟩) (Kd.R_far (p := ⟨gb191, 5, none⟩) (Kd.R_far (p := ⟨gb191, 4, none⟩) (Kd.R_far (p := ⟨gb191, 3, none⟩) (Kd.R_far (p := ⟨gb191, 2, none⟩) (Kd.R_far (p := ⟨gb191, 1, none⟩) (Kd.R_far (p := ⟨gb191, 0, none⟩) (Kd.R_types HO0_6.out BK191.out (by decide)) (fun _ hk => hk.2) (.int .i64 a0_0)) (fun _ hk => hk.2) (.int .i64 0)) (fun _ hk => hk.2) (.string (⟨#[]⟩ : ByteArray))) (fun _ hk => hk.2) (.string (⟨#[]⟩ : ByteArray))) (fun _ hk => hk.2) (.slice none 0 0)) (fun _ hk => hk.2) (.int .i64 0)) (fun _ hk => hk.2) (.slice none 0 0)) (fun _ hk => hk.2) (.int .i64 0)) (fun _ hk => hk.2) (.int .i64 0)) (fun _ hk => hk.2) (.int .i64 0)) (fun _ hk => hk.1)⟩
      have n2_ : Aside0 (((((((((((w28.setCell ⟨gb191, 0, none⟩ (.int .i64 a0_0)).setCell ⟨gb191, 1, none⟩ (.int .i64 0)).setCell ⟨gb191, 2, none⟩ (.string (⟨#[]⟩ : ByteArray))).setCell ⟨gb191, 3, none⟩ (.string (⟨#[]⟩ : ByteArray))).setCell ⟨gb191, 4, none⟩ (.slice none 0 0)).setCell ⟨gb191, 5, none⟩ (.int .i64 0)).setCell ⟨gb191, 6, none⟩ (.slice none 0 0)).setCell ⟨gb191, 7, none⟩ (.int .i64 0)).setCell ⟨gb191, 8, none⟩ (.int .i64 0)).setCell ⟨gb191, 9, none⟩ (.int .i64 0)).heap[gb189]? = some (.cells #[.int .i64 a0_0, .int .i64 a0_1, .string a0_2, .string a0_3, .slice Ao22 l0_4.length co22, .int .i64 a0_5, .slice Ao23 l0_6.length co23, .int .i64 a0_7, .int .i64 a0_8, .int .i64 a0_9] 61 (0, 0))) := ⟨by (with_reducible repeat (first | refine blk_drewN ?_ _ | refine blk_drew ?_ | refine blk_alloc ?_ _)); refine blk_far ?_ NB189_191.out _; (with_reducible repeat (first | refine blk_drewN ?_ _ | refine blk_drew ?_ | refine blk_alloc ?_ _)); refine blk_far ?_ NB189_191.out _; (with_reducible repeat (first | refine blk_drewN ?_ _ | refine blk_drew ?_ | refine blk_alloc ?_ _)); refine blk_far ?_ NB189_191.out _; (with_reducible repeat (first | refine blk_drewN ?_ _ | refine blk_drew ?_ | refine blk_alloc ?_ _)); refine blk_far ?_ NB189_191.out _; (with_reducible repeat (first | refine blk_drewN ?_ _ | refine blk_drew ?_ | refine blk_alloc ?_ _)); refine blk_far ?_ NB189_191.out _; (with_reducible repeat (first | refine blk_drewN ?_ _ | refine blk_drew ?_ | refine blk_alloc ?_ _)); refine blk_far ?_ NB189_191.out _; (with_reducible repeat (first | refine blk_drewN ?_ _ | refine blk_drew ?_ | refine blk_alloc ?_ _)); refine blk_far ?_ NB189_191.out _; (with_reducible repeat (first | refine blk_drewN ?_ _ | refine blk_drew ?_ | refine blk_alloc ?_ _)); refine blk_far ?_ NB189_191.out _; (with_reducible repeat (first | refine blk_drewN ?_ _ | refine blk_drew ?_ | refine blk_alloc ?_ _)); refine blk_far ?_ NB189_191.out _; (with_reducible repeat (first | refine blk_drewN ?_ _ | refine blk_drew ?_ | refine blk_alloc ?_ _)); refine blk_far ?_ NB189_191.out _; (with_reducible repeat (first | refine blk_drewN ?_ _ | refine blk_drew ?_ | refine blk_alloc ?_ _)); exact BK189.out⟩
      have n3_ : Aside0 (((((((((((w28.setCell ⟨gb191, 0, none⟩ (.int .i64 a0_0)).setCell ⟨gb191, 1, none⟩ (.int .i64 0)).setCell ⟨gb191, 2, none⟩ (.string (⟨#[]⟩ : ByteArray))).setCell ⟨gb191, 3, none⟩ (.string (⟨#[]⟩ : ByteArray))).setCell ⟨gb191, 4, none⟩ (.slice none 0 0)).setCell ⟨gb191, 5, none⟩ (.int .i64 0)).setCell ⟨gb191, 6, none⟩ (.slice none 0 0)).setCell ⟨gb191, 7, none⟩ (.int .i64 0)).setCell ⟨gb191, 8, none⟩ (.int .i64 0)).setCell ⟨gb191, 9, none⟩ (.int .i64 0)).heap[gb190]? = some (.cells #[.int .i64 0, .int .i64 0, .string (⟨#[]⟩ : ByteArray), .string (⟨#[]⟩ : ByteArray), .slice none 0 0, .int .i64 0, .slice none 0 0, .int .i64 0, .int .i64 0, .int .i64 0] 61 (0, 0))) := ⟨by (with_reducible repeat (first | refine blk_drewN ?_ _ | refine blk_drew ?_ | refine blk_alloc ?_ _)); refine blk_far ?_ NB190_191.out _; (with_reducible repeat (first | refine blk_drewN ?_ _ | refine blk_drew ?_ | refine blk_alloc ?_ _)); refine blk_far ?_ NB190_191.out _; (with_reducible repeat (first | refine blk_drewN ?_ _ | refine blk_drew ?_ | refine blk_alloc ?_ _)); refine blk_far ?_ NB190_191.out _; (with_reducible repeat (first | refine blk_drewN ?_ _ | refine blk_drew ?_ | refine blk_alloc ?_ _)); refine blk_far ?_ NB190_191.out _; (with_reducible repeat (first | refine blk_drewN ?_ _ | refine blk_drew ?_ | refine blk_alloc ?_ _)); refine blk_far ?_ NB190_191.out _; (with_reducible repeat (first | refine blk_drewN ?_ _ | refine blk_drew ?_ | refine blk_alloc ?_ _)); refine blk_far ?_ NB190_191.out _; (with_reducible repeat (first | refine blk_drewN ?_ _ | refine blk_drew ?_ | refine blk_alloc ?_ _)); refine blk_far ?_ NB190_191.out _; (with_reducible repeat (first | refine blk_drewN ?_ _ | refine blk_drew ?_ | refine blk_alloc ?_ _)); refine blk_far ?_ NB190_191.out _; (with_reducible repeat (first | refine blk_drewN ?_ _ | refine blk_drew ?_ | refine blk_alloc ?_ _)); refine blk_far ?_ NB190_191.out _; (with_reducible repeat (first | refine blk_drewN ?_ _ | refine blk_drew ?_ | refine blk_alloc ?_ _)); refine blk_far ?_ NB190_191.out _; (with_reducible repeat (first | refine blk_drewN ?_ _ | refine blk_drew ?_ | refine blk_alloc ?_ _)); exact BK190.out⟩
      have n4_ : Aside0 (((((((((((w28.setCell ⟨gb191, 0, none⟩ (.int .i64 a0_0)).setCell ⟨gb191, 1, none⟩ (.int .i64 0)).setCell ⟨gb191, 2, none⟩ (.string (⟨#[]⟩ : ByteArray))).setCell ⟨gb191, 3, none⟩ (.string (⟨#[]⟩ : ByteArray))).setCell ⟨gb191, 4, none⟩ (.slice none 0 0)).setCell ⟨gb191, 5, none⟩ (.int .i64 0)).setCell ⟨gb191, 6, none⟩ (.slice none 0 0)).setCell ⟨gb191, 7, none⟩ (.int .i64 0)).setCell ⟨gb191, 8, none⟩ (.int .i64 0)).setCell ⟨gb191, 9, none⟩ (.int .i64 0)).heap[gb191]? = some (.cells #[.int .i64 a0_0, .int .i64 0, .string (⟨#[]⟩ : ByteArray), .string (⟨#[]⟩ : ByteArray), .slice none 0 0, .int .i64 0, .slice none 0 0, .int .i64 0, .int .i64 0, .int .i64 0] 61 (0, 0))) := ⟨by (with_reducible repeat (first | refine blk_drewN ?_ _ | refine blk_drew ?_ | refine blk_alloc ?_ _)); refine blk_put (cs := #[.int .i64 a0_0, .int .i64 0, .string (⟨#[]⟩ : ByteArray), .string (⟨#[]⟩ : ByteArray), .slice none 0 0, .int .i64 0, .slice none 0 0, .int .i64 0, .int .i64 0, .int .i64 0]) ?_ 9 _ rfl; (with_reducible repeat (first | refine blk_drewN ?_ _ | refine blk_drew ?_ | refine blk_alloc ?_ _)); refine blk_put (cs := #[.int .i64 a0_0, .int .i64 0, .string (⟨#[]⟩ : ByteArray), .string (⟨#[]⟩ : ByteArray), .slice none 0 0, .int .i64 0, .slice none 0 0, .int .i64 0, .int .i64 0, .int .i64 0]) ?_ 8 _ rfl; (with_reducible repeat (first | refine blk_drewN ?_ _ | refine blk_drew ?_ | refine blk_alloc ?_ _)); refine blk_put (cs := #[.int .i64 a0_0, .int .i64 0, .string (⟨#[]⟩ : ByteArray), .string (⟨#[]⟩ : ByteArray), .slice none 0 0, .int .i64 0, .slice none 0 0, .int .i64 0, .int .i64 0, .int .i64 0]) ?_ 7 _ rfl; (with_reducible repeat (first | refine blk_drewN ?_ _ | refine blk_drew ?_ | refine blk_alloc ?_ _)); refine blk_put (cs := #[.int .i64 a0_0, .int .i64 0, .string (⟨#[]⟩ : ByteArray), .string (⟨#[]⟩ : ByteArray), .slice none 0 0, .int .i64 0, .slice none 0 0, .int .i64 0, .int .i64 0, .int .i64 0]) ?_ 6 _ rfl; (with_reducible repeat (first | refine blk_drewN ?_ _ | refine blk_drew ?_ | refine blk_alloc ?_ _)); refine blk_put (cs := #[.int .i64 a0_0, .int .i64 0, .string (⟨#[]⟩ : ByteArray), .string (⟨#[]⟩ : ByteArray), .slice none 0 0, .int .i64 0, .slice none 0 0, .int .i64 0, .int .i64 0, .int .i64 0]) ?_ 5 _ rfl; (with_reducible repeat (first | refine blk_drewN ?_ _ | refine blk_drew ?_ | refine blk_alloc ?_ _)); refine blk_put (cs := #[.int .i64 a0_0, .int .i64 0, .string (⟨#[]⟩ : ByteArray), .string (⟨#[]⟩ : ByteArray), .slice none 0 0, .int .i64 0, .slice none 0 0, .int .i64 0, .int .i64 0, .int .i64 0]) ?_ 4 _ rfl; (with_reducible repeat (first | refine blk_drewN ?_ _ | refine blk_drew ?_ | refine blk_alloc ?_ _)); refine blk_put (cs := #[.int .i64 a0_0, .int .i64 0, .string (⟨#[]⟩ : ByteArray), .string (⟨#[]⟩ : ByteArray), .slice none 0 0, .int .i64 0, .slice none 0 0, .int .i64 0, .int .i64 0, .int .i64 0]) ?_ 3 _ rfl; (with_reducible repeat (first | refine blk_drewN ?_ _ | refine blk_drew ?_ | refine blk_alloc ?_ _)); refine blk_put (cs := #[.int .i64 a0_0, .int .i64 0, .string (⟨#[]⟩ : ByteArray), .string (⟨#[]⟩ : ByteArray), .slice none 0 0, .int .i64 0, .slice none 0 0, .int .i64 0, .int .i64 0, .int .i64 0]) ?_ 2 _ rfl; (with_reducible repeat (first | refine blk_drewN ?_ _ | refine blk_drew ?_ | refine blk_alloc ?_ _)); refine blk_put (cs := #[.int .i64 a0_0, .int .i64 0, .string (⟨#[]⟩ : ByteArray), .string (⟨#[]⟩ : ByteArray), .slice none 0 0, .int .i64 0, .slice none 0 0, .int .i64 0, .int .i64 0, .int .i64 0]) ?_ 1 _ rfl; (with_reducible repeat (first | refine blk_drewN ?_ _ | refine blk_drew ?_ | refine blk_alloc ?_ _)); refine blk_put (cs := #[.int .i64 0, .int .i64 0, .string (⟨#[]⟩ : ByteArray), .string (⟨#[]⟩ : ByteArray), .slice none 0 0, .int .i64 0, .slice none 0 0, .int .i64 0, .int .i64 0, .int .i64 0]) ?_ 0 _ rfl; (with_reducible repeat (first | refine blk_drewN ?_ _ | refine blk_drew ?_ | refine blk_alloc ?_ _)); exact BK191.out⟩
      have n5_ : Aside0 (Kept w ((((((((((w28.setCell ⟨gb191, 0, none⟩ (.int .i64 a0_0)).setCell ⟨gb191, 1, none⟩ (.int .i64 0)).setCell ⟨gb191, 2, none⟩ (.string (⟨#[]⟩ : ByteArray))).setCell ⟨gb191, 3, none⟩ (.string (⟨#[]⟩ : ByteArray))).setCell ⟨gb191, 4, none⟩ (.slice none 0 0)).setCell ⟨gb191, 5, none⟩ (.int .i64 0)).setCell ⟨gb191, 6, none⟩ (.slice none 0 0)).setCell ⟨gb191, 7, none⟩ (.int .i64 0)).setCell ⟨gb191, 8, none⟩ (.int .i64 0)).setCell ⟨gb191, 9, none⟩ (.int .i64 0)) (fun k_ => P0_4_ k_ ∨ P0_6_ k_)) := ⟨by repeat (first | (with_reducible first | exact HK.out | apply Kept.alloc | apply Kept.drewN | apply Kept.drew | refine Kept.setCell ?_ (.inr GW189.out) _ | refine Kept.setCell ?_ (.inr GW190.out) _ | refine Kept.setCell ?_ (.inr GW191.out) _) | exact HK.out)⟩
      have n6_ : Aside0 (Below w0.heap.size w0 ((((((((((w28.setCell ⟨gb191, 0, none⟩ (.int .i64 a0_0)).setCell ⟨gb191, 1, none⟩ (.int .i64 0)).setCell ⟨gb191, 2, none⟩ (.string (⟨#[]⟩ : ByteArray))).setCell ⟨gb191, 3, none⟩ (.string (⟨#[]⟩ : ByteArray))).setCell ⟨gb191, 4, none⟩ (.slice none 0 0)).setCell ⟨gb191, 5, none⟩ (.int .i64 0)).setCell ⟨gb191, 6, none⟩ (.slice none 0 0)).setCell ⟨gb191, 7, none⟩ (.int .i64 0)).setCell ⟨gb191, 8, none⟩ (.int .i64 0)).setCell ⟨gb191, 9, none⟩ (.int .i64 0))) := ⟨by repeat (first | (with_reducible first | exact HB.out | apply below_alloc | apply pw_below_drewN | apply below_drew1 | refine below_set ?_ GE189.out | refine below_set ?_ GE190.out | refine below_set ?_ GE191.out) | exact HB.out)⟩
      (try clear HO0_4)
      (try clear HO0_6)
      (try clear BK189)
      (try clear BK190)
      (try clear BK191)
      (try clear HK)
      (try clear HB)
      generalize ((((((((((w28.setCell ⟨gb191, 0, none⟩ (.int .i64 a0_0)).setCell ⟨gb191, 1, none⟩ (.int .i64 0)).setCell ⟨gb191, 2, none⟩ (.string (⟨#[]⟩ : ByteArray))).setCell ⟨gb191, 3, none⟩ (.string (⟨#[]⟩ : ByteArray))).setCell ⟨gb191, 4, none⟩ (.slice none 0 0)).setCell ⟨gb191, 5, none⟩ (.int .i64 0)).setCell ⟨gb191, 6, none⟩ (.slice none 0 0)).setCell ⟨gb191, 7, none⟩ (.int .i64 0)).setCell ⟨gb191, 8, none⟩ (.int .i64 0)).setCell ⟨gb191, 9, none⟩ (.int .i64 0)) = w33 at n0_ n1_ n2_ n3_ n4_ n5_ n6_ ⊢
      have HO0_4 := n0_
      have HO0_6 := n1_
      have BK189 := n2_
      have BK190 := n3_
      have BK191 := n4_
      have HK := n5_
      have HB := n6_
      clear n0_ n1_ n2_ n3_ n4_ n5_ n6_
      have n0_ := Aside0.mk (Kd.R_drew HO0_4.out)
      have n1_ := Aside0.mk (Kd.R_drew HO0_6.out)
      have n2_ := Aside0.mk (blk_drew BK189.out)
      have n3_ := Aside0.mk (blk_drew BK190.out)
      have n4_ := Aside0.mk (blk_drew BK191.out)
      have n5_ := Aside0.mk (Kept.drew HK.out)
      have n6_ := Aside0.mk (below_drew1 HB.out)
      clear HO0_4
      clear HO0_6
      clear BK189
      clear BK190
      clear BK191
      clear HK
      clear HB
      have HO0_4 := n0_
      have HO0_6 := n1_
      have BK189 := n2_
      have BK190 := n3_
      have BK191 := n4_
      have HK := n5_
      have HB := n6_
      clear n0_ n1_ n2_ n3_ n4_ n5_ n6_
      refine start_ (n := 8) (S := fun w' => w'.cell? ⟨gb189, 0, none⟩ = some (.int .i64 a0_0) ∧ w'.cell? ⟨gb189, 1, none⟩ = some (.int .i64 a0_1) ∧ w'.cell? ⟨gb189, 2, none⟩ = some (.string a0_2) ∧ w'.cell? ⟨gb189, 3, none⟩ = some (.string a0_3) ∧ w'.cell? ⟨gb189, 4, none⟩ = some (.slice Ao22 l0_4.length co22) ∧ w'.cell? ⟨gb189, 5, none⟩ = some (.int .i64 a0_5) ∧ w'.cell? ⟨gb189, 6, none⟩ = some (.slice Ao23 l0_6.length co23) ∧ w'.cell? ⟨gb189, 7, none⟩ = some (.int .i64 a0_7) ∧ w'.cell? ⟨gb189, 8, none⟩ = some (.int .i64 a0_8) ∧ w'.cell? ⟨gb189, 9, none⟩ = some (.int .i64 a0_9)) (ds := []) #[false, false, false, false, false, false, false, false] (by kernel_rfl) rfl rfl ⟨(blk_cell BK189.out 0).trans rfl, (blk_cell BK189.out 1).trans rfl, (blk_cell BK189.out 2).trans rfl, (blk_cell BK189.out 3).trans rfl, (blk_cell BK189.out 4).trans rfl, (blk_cell BK189.out 5).trans rfl, (blk_cell BK189.out 6).trans rfl, (blk_cell BK189.out 7).trans rfl, (blk_cell BK189.out 8).trans rfl, (blk_cell BK189.out 9).trans rfl⟩ (fun hHeld => ?_); refine with_tabW cachepotlaw26_bare.tab6 cachepotlaw26_bare.bits6 (fun HT_ HW_ => ?_)
      generalize w33.drew = w34 at HO0_4 HO0_6 BK189 BK190 BK191 HK HB hHeld ⊢
      refine pure_ (i := 0) (N := some 22) (v := ?_) (a' := ?_) #[true, false, false, false, false, false, false, false] rfl rfl (any_of HT_.out (by kernel_rfl)) (fun _ _ _ h => h) (Or.inl ⟨by rfl, ?_⟩) ?_ ?_
      rotate_left
      · intro w'
        go_simp
        with_reducible rfl
      rotate_left
      · simp only [Act.put, List.setIfInBounds_toArray, List.set_cons_zero, List.set_cons_succ, i64_w, i32_w]
        rfl
      refine pure_ (i := 2) (N := some 24) (v := ?_) (a' := ?_) #[true, false, true, false, false, false, false, false] rfl rfl (any_of HT_.out (by kernel_rfl)) (fun _ _ _ h => h) (Or.inl ⟨by rfl, ?_⟩) ?_ ?_
      rotate_left
      · intro w'
        go_simp
        with_reducible rfl
      rotate_left
      · simp only [Act.put, List.setIfInBounds_toArray, List.set_cons_zero, List.set_cons_succ, i64_w, i32_w]
        rfl
      refine take_ (i := 1) (N := some 23) (v := ?_) (a' := ?_) #[true, true, true, false, false, false, false, false] rfl rfl (take_ofW HT_.out HW_.out (by kernel_rfl)) (fun _ _ _ h => h) (Or.inl ⟨by rfl, ?_⟩) hHeld ?_ ?_
      rotate_left
      · rintro w' ⟨s0, s1, s2, s3, s4, s5, s6, s7, s8, s9⟩
        go_simp
        with_reducible rfl
      rotate_left
      · simp only [Act.put, List.setIfInBounds_toArray, List.set_cons_zero, List.set_cons_succ, i64_w, i32_w]
        rfl
      refine pure_ (i := 4) (N := some 26) (v := ?_) (a' := ?_) #[true, true, true, false, true, false, false, false] rfl rfl (any_of HT_.out (by kernel_rfl)) (fun _ _ _ h => h) (Or.inl ⟨by rfl, ?_⟩) ?_ ?_
      rotate_left
      · intro w'
        go_simp
        with_reducible rfl
      rotate_left
      · simp only [Act.put, List.setIfInBounds_toArray, List.set_cons_zero, List.set_cons_succ, i64_w, i32_w]
        rfl
      refine take_ (i := 3) (N := some 25) (v := ?_) (a' := ?_) #[true, true, true, true, true, false, false, false] rfl rfl (take_ofW HT_.out HW_.out (by kernel_rfl)) (fun _ _ _ h => h) (Or.inl ⟨by rfl, ?_⟩) hHeld ?_ ?_
      rotate_left
      · rintro w' ⟨s0, s1, s2, s3, s4, s5, s6, s7, s8, s9⟩
        go_simp
        with_reducible rfl
      rotate_left
      · simp only [Act.put, List.setIfInBounds_toArray, List.set_cons_zero, List.set_cons_succ, i64_w, i32_w]
        rfl
      refine one_ (i := 5) (N := none) #[true, true, true, true, true, true, false, false] rfl rfl (one_of HT_.out (by kernel_rfl)) (by decide) (fun K hK => ?_)
      have hs35 : w34.cell? ⟨gb191, 1, none⟩ = some (.int .i64 0) := (blk_cell BK191.out 1).trans rfl
      have hfs35 := blk_frozen BK191.out 1
      have hns35_0 := NB189_191.out
      have hns35_1 := NB190_191.out
      have hms35_0 := NB191_189.out
      have hms35_1 := NB191_190.out
      refine skip_ (w1 := ?_) (by rfl) rfl ?_ ?_
      rotate_left
      · go_simp
        rfl
      refine hK.out _ _ ⟨((cell_far (p := ⟨gb191, _, none⟩) NB189_191.out _).trans (hHeld.1)), ((cell_far (p := ⟨gb191, _, none⟩) NB189_191.out _).trans (hHeld.2.1)), ((cell_far (p := ⟨gb191, _, none⟩) NB189_191.out _).trans (hHeld.2.2.1)), ((cell_far (p := ⟨gb191, _, none⟩) NB189_191.out _).trans (hHeld.2.2.2.1)), ((cell_far (p := ⟨gb191, _, none⟩) NB189_191.out _).trans (hHeld.2.2.2.2.1)), ((cell_far (p := ⟨gb191, _, none⟩) NB189_191.out _).trans (hHeld.2.2.2.2.2.1)), ((cell_far (p := ⟨gb191, _, none⟩) NB189_191.out _).trans (hHeld.2.2.2.2.2.2.1)), ((cell_far (p := ⟨gb191, _, none⟩) NB189_191.out _).trans (hHeld.2.2.2.2.2.2.2.1)), ((cell_far (p := ⟨gb191, _, none⟩) NB189_191.out _).trans (hHeld.2.2.2.2.2.2.2.2.1)), ((cell_far (p := ⟨gb191, _, none⟩) NB189_191.out _).trans (hHeld.2.2.2.2.2.2.2.2.2))⟩ (fun hHeld => ?_)
      clear hK K
      refine pure_ (i := 6) (N := some 27) (v := ?_) (a' := ?_) #[true, true, true, true, true, true, true, false] rfl rfl (any_of HT_.out (by kernel_rfl)) (fun _ _ _ h => h) (Or.inl ⟨by rfl, ?_⟩) ?_ ?_
      rotate_left
      · intro w'
        go_simp
        with_reducible rfl
      rotate_left
      · simp only [Act.put, List.setIfInBounds_toArray, List.set_cons_zero, List.set_cons_succ, i64_w, i32_w]
        rfl
      refine one_ (i := 7) (N := none) #[true, true, true, true, true, true, true, true] rfl rfl (one_of HT_.out (by kernel_rfl)) (by decide) (fun K hK => ?_)
      have hs36 : w34.cell? ⟨gb191, 2, none⟩ = some (.string (⟨#[]⟩ : ByteArray)) := (blk_cell BK191.out 2).trans rfl
      have hfs36 := blk_frozen BK191.out 2
      have hns36_0 := NB189_191.out
      have hns36_1 := NB190_191.out
      have hms36_0 := NB191_189.out
      have hms36_1 := NB191_190.out
      refine skip_ (w1 := ?_) (by rfl) rfl ?_ ?_
      rotate_left
      · go_simp
        rfl
      refine hK.out _ _ ⟨((cell_far (p := ⟨gb191, _, none⟩) NB189_191.out _).trans (hHeld.1)), ((cell_far (p := ⟨gb191, _, none⟩) NB189_191.out _).trans (hHeld.2.1)), ((cell_far (p := ⟨gb191, _, none⟩) NB189_191.out _).trans (hHeld.2.2.1)), ((cell_far (p := ⟨gb191, _, none⟩) NB189_191.out _).trans (hHeld.2.2.2.1)), ((cell_far (p := ⟨gb191, _, none⟩) NB189_191.out _).trans (hHeld.2.2.2.2.1)), ((cell_far (p := ⟨gb191, _, none⟩) NB189_191.out _).trans (hHeld.2.2.2.2.2.1)), ((cell_far (p := ⟨gb191, _, none⟩) NB189_191.out _).trans (hHeld.2.2.2.2.2.2.1)), ((cell_far (p := ⟨gb191, _, none⟩) NB189_191.out _).trans (hHeld.2.2.2.2.2.2.2.1)), ((cell_far (p := ⟨gb191, _, none⟩) NB189_191.out _).trans (hHeld.2.2.2.2.2.2.2.2.1)), ((cell_far (p := ⟨gb191, _, none⟩) NB189_191.out _).trans (hHeld.2.2.2.2.2.2.2.2.2))⟩ (fun hHeld => ?_)
      clear hK K
      refine done_ (done_of HT_.out (by kernel_rfl)) ?_
      have hcz37_0 : w34.cell? ⟨gb191, 0, none⟩ = some (.int .i64 a0_0) := (blk_cell BK191.out 0).trans rfl
      have hcz37_1 : w34.cell? ⟨gb191, 1, none⟩ = some (.int .i64 0) := (blk_cell BK191.out 1).trans rfl
      have hcz37_2 : w34.cell? ⟨gb191, 2, none⟩ = some (.string (⟨#[]⟩ : ByteArray)) := (blk_cell BK191.out 2).trans rfl
      have hcz37_3 : w34.cell? ⟨gb191, 3, none⟩ = some (.string (⟨#[]⟩ : ByteArray)) := (blk_cell BK191.out 3).trans rfl
      have hcz37_4 : w34.cell? ⟨gb191, 4, none⟩ = some (.slice none 0 0) := (blk_cell BK191.out 4).trans rfl
      have hcz37_5 : w34.cell? ⟨gb191, 5, none⟩ = some (.int .i64 0) := (blk_cell BK191.out 5).trans rfl
      have hcz37_6 : w34.cell? ⟨gb191, 6, none⟩ = some (.slice none 0 0) := (blk_cell BK191.out 6).trans rfl
      have hcz37_7 : w34.cell? ⟨gb191, 7, none⟩ = some (.int .i64 0) := (blk_cell BK191.out 7).trans rfl
      have hcz37_8 : w34.cell? ⟨gb191, 8, none⟩ = some (.int .i64 0) := (blk_cell BK191.out 8).trans rfl
      have hcz37_9 : w34.cell? ⟨gb191, 9, none⟩ = some (.int .i64 0) := (blk_cell BK191.out 9).trans rfl
      have hfz37_0 := blk_frozen BK191.out 0
      have hfz37_1 := blk_frozen BK191.out 1
      have hfz37_2 := blk_frozen BK191.out 2
      have hfz37_3 := blk_frozen BK191.out 3
      have hfz37_4 := blk_frozen BK191.out 4
      have hfz37_5 := blk_frozen BK191.out 5
      have hfz37_6 := blk_frozen BK191.out 6
      have hfz37_7 := blk_frozen BK191.out 7
      have hfz37_8 := blk_frozen BK191.out 8
      have hfz37_9 := blk_frozen BK191.out 9
      have hcz38_0 : w34.cell? ⟨gb190, 0, none⟩ = some (.int .i64 0) := (blk_cell BK190.out 0).trans rfl
      have hcz38_1 : w34.cell? ⟨gb190, 1, none⟩ = some (.int .i64 0) := (blk_cell BK190.out 1).trans rfl
      have hcz38_2 : w34.cell? ⟨gb190, 2, none⟩ = some (.string (⟨#[]⟩ : ByteArray)) := (blk_cell BK190.out 2).trans rfl
      have hcz38_3 : w34.cell? ⟨gb190, 3, none⟩ = some (.string (⟨#[]⟩ : ByteArray)) := (blk_cell BK190.out 3).trans rfl
      have hcz38_4 : w34.cell? ⟨gb190, 4, none⟩ = some (.slice none 0 0) := (blk_cell BK190.out 4).trans rfl
      have hcz38_5 : w34.cell? ⟨gb190, 5, none⟩ = some (.int .i64 0) := (blk_cell BK190.out 5).trans rfl
      have hcz38_6 : w34.cell? ⟨gb190, 6, none⟩ = some (.slice none 0 0) := (blk_cell BK190.out 6).trans rfl
      have hcz38_7 : w34.cell? ⟨gb190, 7, none⟩ = some (.int .i64 0) := (blk_cell BK190.out 7).trans rfl
      have hcz38_8 : w34.cell? ⟨gb190, 8, none⟩ = some (.int .i64 0) := (blk_cell BK190.out 8).trans rfl
      have hcz38_9 : w34.cell? ⟨gb190, 9, none⟩ = some (.int .i64 0) := (blk_cell BK190.out 9).trans rfl
      have hfz38_0 := blk_frozen BK190.out 0
      have hfz38_1 := blk_frozen BK190.out 1
      have hfz38_2 := blk_frozen BK190.out 2
      have hfz38_3 := blk_frozen BK190.out 3
      have hfz38_4 := blk_frozen BK190.out 4
      have hfz38_5 := blk_frozen BK190.out 5
      have hfz38_6 := blk_frozen BK190.out 6
      have hfz38_7 := blk_frozen BK190.out 7
      have hfz38_8 := blk_frozen BK190.out 8
      have hfz38_9 := blk_frozen BK190.out 9
      try go_wp2
      refine bodyPost_ret (results_cell_row rfl _ _ gb190 61 #[.int .i64 a0_0, .int .i64 a0_1, .string a0_2, .string (⟨#[]⟩ : ByteArray), .slice none 0 0, .int .i64 0, .slice none 0 0, .int .i64 0, .int .i64 0, .int .i64 0] (0, 0) _ rfl (by (with_reducible repeat (first | refine blk_drewN ?_ _ | refine blk_drew ?_ | refine blk_alloc ?_ _)); refine blk_put (cs := #[.int .i64 a0_0, .int .i64 a0_1, .string a0_2, .string (⟨#[]⟩ : ByteArray), .slice none 0 0, .int .i64 0, .slice none 0 0, .int .i64 0, .int .i64 0, .int .i64 0]) ?_ 9 _ rfl; (with_reducible repeat (first | refine blk_drewN ?_ _ | refine blk_drew ?_ | refine blk_alloc ?_ _)); refine blk_put (cs := #[.int .i64 a0_0, .int .i64 a0_1, .string a0_2, .string (⟨#[]⟩ : ByteArray), .slice none 0 0, .int .i64 0, .slice none 0 0, .int .i64 0, .int .i64 0, .int .i64 0]) ?_ 8 _ rfl; (with_reducible repeat (first | refine blk_drewN ?_ _ | refine blk_drew ?_ | refine blk_alloc ?_ _)); refine blk_put (cs := #[.int .i64 a0_0, .int .i64 a0_1, .string a0_2, .string (⟨#[]⟩ : ByteArray), .slice none 0 0, .int .i64 0, .slice none 0 0, .int .i64 0, .int .i64 0, .int .i64 0]) ?_ 7 _ rfl; (with_reducible repeat (first | refine blk_drewN ?_ _ | refine blk_drew ?_ | refine blk_alloc ?_ _)); refine blk_put (cs := #[.int .i64 a0_0, .int .i64 a0_1, .string a0_2, .string (⟨#[]⟩ : ByteArray), .slice none 0 0, .int .i64 0, .slice none 0 0, .int .i64 0, .int .i64 0, .int .i64 0]) ?_ 6 _ rfl; (with_reducible repeat (first | refine blk_drewN ?_ _ | refine blk_drew ?_ | refine blk_alloc ?_ _)); refine blk_put (cs := #[.int .i64 a0_0, .int .i64 a0_1, .string a0_2, .string (⟨#[]⟩ : ByteArray), .slice none 0 0, .int .i64 0, .slice none 0 0, .int .i64 0, .int .i64 0, .int .i64 0]) ?_ 5 _ rfl; (with_reducible repeat (first | refine blk_drewN ?_ _ | refine blk_drew ?_ | refine blk_alloc ?_ _)); refine blk_put (cs := #[.int .i64 a0_0, .int .i64 a0_1, .string a0_2, .string (⟨#[]⟩ : ByteArray), .slice none 0 0, .int .i64 0, .slice none 0 0, .int .i64 0, .int .i64 0, .int .i64 0]) ?_ 4 _ rfl; (with_reducible repeat (first | refine blk_drewN ?_ _ | refine blk_drew ?_ | refine blk_alloc ?_ _)); refine blk_put (cs := #[.int .i64 a0_0, .int .i64 a0_1, .string a0_2, .string (⟨#[]⟩ : ByteArray), .slice none 0 0, .int .i64 0, .slice none 0 0, .int .i64 0, .int .i64 0, .int .i64 0]) ?_ 3 _ rfl; (with_reducible repeat (first | refine blk_drewN ?_ _ | refine blk_drew ?_ | refine blk_alloc ?_ _)); refine blk_put (cs := #[.int .i64 a0_0, .int .i64 a0_1, .string (⟨#[]⟩ : ByteArray), .string (⟨#[]⟩ : ByteArray), .slice none 0 0, .int .i64 0, .slice none 0 0, .int .i64 0, .int .i64 0, .int .i64 0]) ?_ 2 _ rfl; (with_reducible repeat (first | refine blk_drewN ?_ _ | refine blk_drew ?_ | refine blk_alloc ?_ _)); refine blk_put (cs := #[.int .i64 a0_0, .int .i64 0, .string (⟨#[]⟩ : ByteArray), .string (⟨#[]⟩ : ByteArray), .slice none 0 0, .int .i64 0, .slice none 0 0, .int .i64 0, .int .i64 0, .int .i64 0]) ?_ 1 _ rfl; (with_reducible repeat (first | refine blk_drewN ?_ _ | refine blk_drew ?_ | refine blk_alloc ?_ _)); refine blk_put (cs := #[.int .i64 0, .int .i64 0, .string (⟨#[]⟩ : ByteArray), .string (⟨#[]⟩ : ByteArray), .slice none 0 0, .int .i64 0, .slice none 0 0, .int .i64 0, .int .i64 0, .int .i64 0]) ?_ 0 _ rfl; (with_reducible repeat (first | refine blk_drewN ?_ _ | refine blk_drew ?_ | refine blk_alloc ?_ _)); refine blk_far ?_ NB190_191.out _; (with_reducible repeat (first | refine blk_drewN ?_ _ | refine blk_drew ?_ | refine blk_alloc ?_ _)); refine blk_far ?_ NB190_191.out _; (with_reducible repeat (first | refine blk_drewN ?_ _ | refine blk_drew ?_ | refine blk_alloc ?_ _)); exact BK190.out) Tryd.underlying61 rfl (by kernel_rfl)) rfl ?_
      exact ⟨_, _, by first | rfl | (simp [errW_none, errW_some] <;> rfl) | (simp [*, errW_none, errW_some] <;> rfl), by first | exact Kd.R_nil _ _ _ _ _ | exact Kd.N_nil _ _ _ _ _ | exact Kd.V_nil _ _ _ _ _ | exact Kd.Q_nil _ _ _ _ _ | exact Kd.S_nil _ _ _ _ _, by first | exact Kd.R_nil _ _ _ _ _ | exact Kd.N_nil _ _ _ _ _ | exact Kd.V_nil _ _ _ _ _ | exact Kd.Q_nil _ _ _ _ _ | exact Kd.S_nil _ _ _ _ _, by repeat (first | (with_reducible first | exact HB.out | apply below_alloc | apply pw_below_drewN | apply below_drew1 | refine below_set ?_ GE189.out | refine below_set ?_ GE190.out | refine below_set ?_ GE191.out) | exact HB.out), by repeat (first | (with_reducible first | exact HK.out | apply Kept.alloc | apply Kept.drewN | apply Kept.drew | refine Kept.setCell ?_ (.inr GW189.out) _ | refine Kept.setCell ?_ (.inr GW190.out) _ | refine Kept.setCell ?_ (.inr GW191.out) _) | exact HK.out)⟩
    · rw [if_neg c21] at H
      have c21b0 : (a0_0 == 3) = false := beq_eq_false_iff_ne.mpr c21
      have c21b1 : (a0_0 != 3) = true := bne_iff_ne.mpr c21
      by_cases c39 : a0_0 = 4
      · rw [if_pos c39] at H
        have c39b0 : (a0_0 == 4) = true := beq_iff_eq.mpr c39
        have c39b1 : (a0_0 != 4) = false := bne_eq_false_iff_eq.mpr c39
        clear c39
        simp only [Option.some.injEq, Prod.mk.injEq] at H
        obtain ⟨rfl, rfl, rfl, rfl, rfl, rfl, rfl, rfl, rfl, rfl⟩ := H
        obtain ⟨Ao40, co40, eo40⟩ := Kd.R_slice HO0_4.out
        subst eo40
        obtain ⟨Ao41, co41, eo41⟩ := Kd.R_slice HO0_6.out
        subst eo41
        go_enter Tryd.func49, Tryd.ntmps49
        try go_wp2_with (first | ((with_reducible refine gate_dst (N := 1) rfl ?_); refine box_event ?hg (N := 1) ?hd (cs := #[.int .i64 a0_0, .int .i64 a0_1, .string a0_2, .string a0_3, .slice Ao40 l0_4.length co40, .int .i64 a0_5, .slice Ao41 l0_6.length co41, .int .i64 a0_7, .int .i64 a0_8, .int .i64 a0_9]) (t := 61) ?hr ?_; (case hd => rfl); (case hg => rfl); (case hr => first | (go_simp; done) | (go_simp; rfl)); intro gb189 hg w42 hbox hb; have n0_ := Aside0.mk (Kd.R_below (by (with_reducible repeat (first | apply Kd.R_alloc | apply Kd.R_drewN | apply Kd.R_drew)); exact HO0_4.out) hb); have n1_ := Aside0.mk (Kd.R_below (by (with_reducible repeat (first | apply Kd.R_alloc | apply Kd.R_drewN | apply Kd.R_drew)); exact HO0_6.out) hb); have n2_ := Aside0.mk (Kept.below (S := (fun k_ => P0_4_ k_ ∨ P0_6_ k_)) (by repeat (first | (with_reducible first | exact HK.out | apply Kept.alloc | apply Kept.drewN | apply Kept.drew) | exact HK.out)) hb); have n3_ := Aside0.mk (below_step (by repeat (first | (with_reducible first | exact HB.out | apply below_alloc | apply pw_below_drewN | apply below_drew1) | exact HB.out)) hb); have n4_ := Aside0.mk (hbox); have n5_ := Aside0.mk ((by rw [hg]; exact (by first | exact HK.out.1 | exact (show Kept w _ (fun k_ => P0_4_ k_ ∨ P0_6_ k_) from by repeat (first | (with_reducible first | exact HK.out | apply Kept.alloc | apply Kept.drewN | apply Kept.drew) | exact HK.out)).1) : w.heap.size ≤ gb189)); have n6_ := Aside0.mk ((by rw [hg]; exact (below_size (by repeat (first | (with_reducible first | exact HB.out | apply below_alloc | apply pw_below_drewN | apply below_drew1) | exact HB.out))) : w0.heap.size ≤ gb189)); clear HO0_4; clear HO0_6; clear HK; clear HB; have HO0_4 := n0_; have HO0_6 := n1_; have HK := n2_; have HB := n3_; have BK189 := n4_; have GW189 := n5_; have GE189 := n6_; clear n0_ n1_ n2_ n3_ n4_ n5_ n6_; clear hb hbox hg) | ((with_reducible refine gate_dst (N := 2) rfl ?_); refine box_event ?hg (N := 2) ?hd (cs := #[.int .i64 0, .int .i64 0, .string (⟨#[]⟩ : ByteArray), .string (⟨#[]⟩ : ByteArray), .slice none 0 0, .int .i64 0, .slice none 0 0, .int .i64 0, .int .i64 0, .int .i64 0]) (t := 61) ?hr ?_; (case hd => rfl); (case hg => rfl); (case hr => first | (go_simp; done) | (go_simp; rfl)); intro gb190 hg w43 hbox hb; have n0_ := Aside0.mk (Kd.R_below (by (with_reducible repeat (first | apply Kd.R_alloc | apply Kd.R_drewN | apply Kd.R_drew)); exact HO0_4.out) hb); have n1_ := Aside0.mk (Kd.R_below (by (with_reducible repeat (first | apply Kd.R_alloc | apply Kd.R_drewN | apply Kd.R_drew)); exact HO0_6.out) hb); have n2_ := Aside0.mk (blk_below (g := gb189) (o := .cells #[.int .i64 a0_0, .int .i64 a0_1, .string a0_2, .string a0_3, .slice Ao40 l0_4.length co40, .int .i64 a0_5, .slice Ao41 l0_6.length co41, .int .i64 a0_7, .int .i64 a0_8, .int .i64 a0_9] 61 (0, 0)) (by (with_reducible repeat (first | refine blk_drewN ?_ _ | refine blk_drew ?_ | refine blk_alloc ?_ _)); exact BK189.out) hb); have n3_ := Aside0.mk (Kept.below (S := (fun k_ => P0_4_ k_ ∨ P0_6_ k_)) (by repeat (first | (with_reducible first | exact HK.out | apply Kept.alloc | apply Kept.drewN | apply Kept.drew | refine Kept.setCell ?_ (.inr GW189.out) _) | exact HK.out)) hb); have n4_ := Aside0.mk (below_step (by repeat (first | (with_reducible first | exact HB.out | apply below_alloc | apply pw_below_drewN | apply below_drew1 | refine below_set ?_ GE189.out) | exact HB.out)) hb); have n5_ := Aside0.mk (hbox); have n6_ := Aside0.mk ((by rw [hg]; exact (by first | exact HK.out.1 | exact (show Kept w _ (fun k_ => P0_4_ k_ ∨ P0_6_ k_) from by repeat (first | (with_reducible first | exact HK.out | apply Kept.alloc | apply Kept.drewN | apply Kept.drew | refine Kept.setCell ?_ (.inr GW189.out) _) | exact HK.out)).1) : w.heap.size ≤ gb190)); have n7_ := Aside0.mk ((by rw [hg]; exact (below_size (by repeat (first | (with_reducible first | exact HB.out | apply below_alloc | apply pw_below_drewN | apply below_drew1 | refine below_set ?_ GE189.out) | exact HB.out))) : w0.heap.size ≤ gb190)); have n8_ := Aside0.mk ((by rw [hg]; exact Nat.ne_of_lt (blk_lt (g := gb189) (o := .cells #[.int .i64 a0_0, .int .i64 a0_1, .string a0_2, .string a0_3, .slice Ao40 l0_4.length co40, .int .i64 a0_5, .slice Ao41 l0_6.length co41, .int .i64 a0_7, .int .i64 a0_8, .int .i64 a0_9] 61 (0, 0)) (by (with_reducible repeat (first | refine blk_drewN ?_ _ | refine blk_drew ?_ | refine blk_alloc ?_ _)); exact BK189.out)) : gb189 ≠ gb190)); have n9_ := Aside0.mk ((by rw [hg]; exact Nat.ne_of_gt (blk_lt (g := gb189) (o := .cells #[.int .i64 a0_0, .int .i64 a0_1, .string a0_2, .string a0_3, .slice Ao40 l0_4.length co40, .int .i64 a0_5, .slice Ao41 l0_6.length co41, .int .i64 a0_7, .int .i64 a0_8, .int .i64 a0_9] 61 (0, 0)) (by (with_reducible repeat (first | refine blk_drewN ?_ _ | refine blk_drew ?_ | refine blk_alloc ?_ _)); exact BK189.out)) : gb190 ≠ gb189)); clear HO0_4; clear HO0_6; clear BK189; clear HK; clear HB; have HO0_4 := n0_; have HO0_6 := n1_; have BK189 := n2_; have HK := n3_; have HB := n4_; have BK190 := n5_; have GW190 := n6_; have GE190 := n7_; have NB189_190 := n8_; have NB190_189 := n9_; clear n0_ n1_ n2_ n3_ n4_ n5_ n6_ n7_ n8_ n9_; clear hb hbox hg; have hnb44 := NB189_190.out; have hnc44 := NB190_189.out; have hcz45_0 : w43.cell? ⟨gb189, 0, none⟩ = some (.int .i64 a0_0) := (blk_cell BK189.out 0).trans rfl; have hcz45_1 : w43.cell? ⟨gb189, 1, none⟩ = some (.int .i64 a0_1) := (blk_cell BK189.out 1).trans rfl; have hcz45_2 : w43.cell? ⟨gb189, 2, none⟩ = some (.string a0_2) := (blk_cell BK189.out 2).trans rfl; have hcz45_3 : w43.cell? ⟨gb189, 3, none⟩ = some (.string a0_3) := (blk_cell BK189.out 3).trans rfl; have hcz45_4 : w43.cell? ⟨gb189, 4, none⟩ = some (.slice Ao40 l0_4.length co40) := (blk_cell BK189.out 4).trans rfl; have hcz45_5 : w43.cell? ⟨gb189, 5, none⟩ = some (.int .i64 a0_5) := (blk_cell BK189.out 5).trans rfl; have hcz45_6 : w43.cell? ⟨gb189, 6, none⟩ = some (.slice Ao41 l0_6.length co41) := (blk_cell BK189.out 6).trans rfl; have hcz45_7 : w43.cell? ⟨gb189, 7, none⟩ = some (.int .i64 a0_7) := (blk_cell BK189.out 7).trans rfl; have hcz45_8 : w43.cell? ⟨gb189, 8, none⟩ = some (.int .i64 a0_8) := (blk_cell BK189.out 8).trans rfl; have hcz45_9 : w43.cell? ⟨gb189, 9, none⟩ = some (.int .i64 a0_9) := (blk_cell BK189.out 9).trans rfl; have hfz45_0 := blk_frozen BK189.out 0; have hfz45_1 := blk_frozen BK189.out 1; have hfz45_2 := blk_frozen BK189.out 2; have hfz45_3 := blk_frozen BK189.out 3; have hfz45_4 := blk_frozen BK189.out 4; have hfz45_5 := blk_frozen BK189.out 5; have hfz45_6 := blk_frozen BK189.out 6; have hfz45_7 := blk_frozen BK189.out 7; have hfz45_8 := blk_frozen BK189.out 8; have hfz45_9 := blk_frozen BK189.out 9) | ((with_reducible refine gate_dst (N := 3) rfl ?_); refine box_event ?hg (N := 3) ?hd (cs := #[.int .i64 0, .int .i64 0, .string (⟨#[]⟩ : ByteArray), .string (⟨#[]⟩ : ByteArray), .slice none 0 0, .int .i64 0, .slice none 0 0, .int .i64 0, .int .i64 0, .int .i64 0]) (t := 61) ?hr ?_; (case hd => rfl); (case hg => rfl); (case hr => first | (go_simp; done) | (go_simp; rfl)); intro gb191 hg w46 hbox hb; have n0_ := Aside0.mk (Kd.R_below (by (with_reducible repeat (first | apply Kd.R_alloc | apply Kd.R_drewN | apply Kd.R_drew)); exact HO0_4.out) hb); have n1_ := Aside0.mk (Kd.R_below (by (with_reducible repeat (first | apply Kd.R_alloc | apply Kd.R_drewN | apply Kd.R_drew)); exact HO0_6.out) hb); have n2_ := Aside0.mk (blk_below (g := gb189) (o := .cells #[.int .i64 a0_0, .int .i64 a0_1, .string a0_2, .string a0_3, .slice Ao40 l0_4.length co40, .int .i64 a0_5, .slice Ao41 l0_6.length co41, .int .i64 a0_7, .int .i64 a0_8, .int .i64 a0_9] 61 (0, 0)) (by (with_reducible repeat (first | refine blk_drewN ?_ _ | refine blk_drew ?_ | refine blk_alloc ?_ _)); exact BK189.out) hb); have n3_ := Aside0.mk (blk_below (g := gb190) (o := .cells #[.int .i64 0, .int .i64 0, .string (⟨#[]⟩ : ByteArray), .string (⟨#[]⟩ : ByteArray), .slice none 0 0, .int .i64 0, .slice none 0 0, .int .i64 0, .int .i64 0, .int .i64 0] 61 (0, 0)) (by (with_reducible repeat (first | refine blk_drewN ?_ _ | refine blk_drew ?_ | refine blk_alloc ?_ _)); exact BK190.out) hb); have n4_ := Aside0.mk (Kept.below (S := (fun k_ => P0_4_ k_ ∨ P0_6_ k_)) (by repeat (first | (with_reducible first | exact HK.out | apply Kept.alloc | apply Kept.drewN | apply Kept.drew | refine Kept.setCell ?_ (.inr GW189.out) _ | refine Kept.setCell ?_ (.inr GW190.out) _) | exact HK.out)) hb); have n5_ := Aside0.mk (below_step (by repeat (first | (with_reducible first | exact HB.out | apply below_alloc | apply pw_below_drewN | apply below_drew1 | refine below_set ?_ GE189.out | refine below_set ?_ GE190.out) | exact HB.out)) hb); have n6_ := Aside0.mk (hbox); have n7_ := Aside0.mk ((by rw [hg]; exact (by first | exact HK.out.1 | exact (show Kept w _ (fun k_ => P0_4_ k_ ∨ P0_6_ k_) from by repeat (first | (with_reducible first | exact HK.out | apply Kept.alloc | apply Kept.drewN | apply Kept.drew | refine Kept.setCell ?_ (.inr GW189.out) _ | refine Kept.setCell ?_ (.inr GW190.out) _) | exact HK.out)).1) : w.heap.size ≤ gb191)); have n8_ := Aside0.mk ((by rw [hg]; exact (below_size (by repeat (first | (with_reducible first | exact HB.out | apply below_alloc | apply pw_below_drewN | apply below_drew1 | refine below_set ?_ GE189.out | refine below_set ?_ GE190.out) | exact HB.out))) : w0.heap.size ≤ gb191)); have n9_ := Aside0.mk ((by rw [hg]; exact Nat.ne_of_lt (blk_lt (g := gb189) (o := .cells #[.int .i64 a0_0, .int .i64 a0_1, .string a0_2, .string a0_3, .slice Ao40 l0_4.length co40, .int .i64 a0_5, .slice Ao41 l0_6.length co41, .int .i64 a0_7, .int .i64 a0_8, .int .i64 a0_9] 61 (0, 0)) (by (with_reducible repeat (first | refine blk_drewN ?_ _ | refine blk_drew ?_ | refine blk_alloc ?_ _)); exact BK189.out)) : gb189 ≠ gb191)); have n10_ := Aside0.mk ((by rw [hg]; exact Nat.ne_of_gt (blk_lt (g := gb189) (o := .cells #[.int .i64 a0_0, .int .i64 a0_1, .string a0_2, .string a0_3, .slice Ao40 l0_4.length co40, .int .i64 a0_5, .slice Ao41 l0_6.length co41, .int .i64 a0_7, .int .i64 a0_8, .int .i64 a0_9] 61 (0, 0)) (by (with_reducible repeat (first | refine blk_drewN ?_ _ | refine blk_drew ?_ | refine blk_alloc ?_ _)); exact BK189.out)) : gb191 ≠ gb189)); have n11_ := Aside0.mk ((by rw [hg]; exact Nat.ne_of_lt (blk_lt (g := gb190) (o := .cells #[.int .i64 0, .int .i64 0, .string (⟨#[]⟩ : ByteArray), .string (⟨#[]⟩ : ByteArray), .slice none 0 0, .int .i64 0, .slice none 0 0, .int .i64 0, .int .i64 0, .int .i64 0] 61 (0, 0)) (by (with_reducible repeat (first | refine blk_drewN ?_ _ | refine blk_drew ?_ | refine blk_alloc ?_ _)); exact BK190.out)) : gb190 ≠ gb191)); have n12_ := Aside0.mk ((by rw [hg]; exact Nat.ne_of_gt (blk_lt (g := gb190) (o := .cells #[.int .i64 0, .int .i64 0, .string (⟨#[]⟩ : ByteArray), .string (⟨#[]⟩ : ByteArray), .slice none 0 0, .int .i64 0, .slice none 0 0, .int .i64 0, .int .i64 0, .int .i64 0] 61 (0, 0)) (by (with_reducible repeat (first | refine blk_drewN ?_ _ | refine blk_drew ?_ | refine blk_alloc ?_ _)); exact BK190.out)) : gb191 ≠ gb190)); clear HO0_4; clear HO0_6; clear BK189; clear BK190; clear HK; clear HB; have HO0_4 := n0_; have HO0_6 := n1_; have BK189 := n2_; have BK190 := n3_; have HK := n4_; have HB := n5_; have BK191 := n6_; have GW191 := n7_; have GE191 := n8_; have NB189_191 := n9_; have NB191_189 := n10_; have NB190_191 := n11_; have NB191_190 := n12_; clear n0_ n1_ n2_ n3_ n4_ n5_ n6_ n7_ n8_ n9_ n10_ n11_ n12_; clear hb hbox hg; have hnb47 := NB191_189.out; have hnc47 := NB189_191.out; have hnb48 := NB191_190.out; have hnc48 := NB190_191.out; have hcz49_0 : w46.cell? ⟨gb191, 0, none⟩ = some (.int .i64 0) := (blk_cell BK191.out 0).trans rfl; have hcz49_1 : w46.cell? ⟨gb191, 1, none⟩ = some (.int .i64 0) := (blk_cell BK191.out 1).trans rfl; have hcz49_2 : w46.cell? ⟨gb191, 2, none⟩ = some (.string (⟨#[]⟩ : ByteArray)) := (blk_cell BK191.out 2).trans rfl; have hcz49_3 : w46.cell? ⟨gb191, 3, none⟩ = some (.string (⟨#[]⟩ : ByteArray)) := (blk_cell BK191.out 3).trans rfl; have hcz49_4 : w46.cell? ⟨gb191, 4, none⟩ = some (.slice none 0 0) := (blk_cell BK191.out 4).trans rfl; have hcz49_5 : w46.cell? ⟨gb191, 5, none⟩ = some (.int .i64 0) := (blk_cell BK191.out 5).trans rfl; have hcz49_6 : w46.cell? ⟨gb191, 6, none⟩ = some (.slice none 0 0) := (blk_cell BK191.out 6).trans rfl; have hcz49_7 : w46.cell? ⟨gb191, 7, none⟩ = some (.int .i64 0) := (blk_cell BK191.out 7).trans rfl; have hcz49_8 : w46.cell? ⟨gb191, 8, none⟩ = some (.int .i64 0) := (blk_cell BK191.out 8).trans rfl; have hcz49_9 : w46.cell? ⟨gb191, 9, none⟩ = some (.int .i64 0) := (blk_cell BK191.out 9).trans rfl; have hfz49_0 := blk_frozen BK191.out 0; have hfz49_1 := blk_frozen BK191.out 1; have hfz49_2 := blk_frozen BK191.out 2; have hfz49_3 := blk_frozen BK191.out 3; have hfz49_4 := blk_frozen BK191.out 4; have hfz49_5 := blk_frozen BK191.out 5; have hfz49_6 := blk_frozen BK191.out 6; have hfz49_7 := blk_frozen BK191.out 7; have hfz49_8 := blk_frozen BK191.out 8; have hfz49_9 := blk_frozen BK191.out 9; have hcz50_0 : w46.cell? ⟨gb189, 0, none⟩ = some (.int .i64 a0_0) := (blk_cell BK189.out 0).trans rfl; have hcz50_1 : w46.cell? ⟨gb189, 1, none⟩ = some (.int .i64 a0_1) := (blk_cell BK189.out 1).trans rfl; have hcz50_2 : w46.cell? ⟨gb189, 2, none⟩ = some (.string a0_2) := (blk_cell BK189.out 2).trans rfl; have hcz50_3 : w46.cell? ⟨gb189, 3, none⟩ = some (.string a0_3) := (blk_cell BK189.out 3).trans rfl; have hcz50_4 : w46.cell? ⟨gb189, 4, none⟩ = some (.slice Ao40 l0_4.length co40) := (blk_cell BK189.out 4).trans rfl; have hcz50_5 : w46.cell? ⟨gb189, 5, none⟩ = some (.int .i64 a0_5) := (blk_cell BK189.out 5).trans rfl; have hcz50_6 : w46.cell? ⟨gb189, 6, none⟩ = some (.slice Ao41 l0_6.length co41) := (blk_cell BK189.out 6).trans rfl; have hcz50_7 : w46.cell? ⟨gb189, 7, none⟩ = some (.int .i64 a0_7) := (blk_cell BK189.out 7).trans rfl; have hcz50_8 : w46.cell? ⟨gb189, 8, none⟩ = some (.int .i64 a0_8) := (blk_cell BK189.out 8).trans rfl; have hcz50_9 : w46.cell? ⟨gb189, 9, none⟩ = some (.int .i64 a0_9) := (blk_cell BK189.out 9).trans rfl; have hfz50_0 := blk_frozen BK189.out 0; have hfz50_1 := blk_frozen BK189.out 1; have hfz50_2 := blk_frozen BK189.out 2; have hfz50_3 := blk_frozen BK189.out 3; have hfz50_4 := blk_frozen BK189.out 4; have hfz50_5 := blk_frozen BK189.out 5; have hfz50_6 := blk_frozen BK189.out 6; have hfz50_7 := blk_frozen BK189.out 7; have hfz50_8 := blk_frozen BK189.out 8; have hfz50_9 := blk_frozen BK189.out 9))
        have n0_ : Aside0 (Kd.R Kd.string 9 ((((((((((w46.setCell ⟨gb191, 0, none⟩ (.int .i64 a0_0)).setCell ⟨gb191, 1, none⟩ (.int .i64 0)).setCell ⟨gb191, 2, none⟩ (.string (⟨#[]⟩ : ByteArray))).setCell ⟨gb191, 3, none⟩ (.string (⟨#[]⟩ : ByteArray))).setCell ⟨gb191, 4, none⟩ (.slice none 0 0)).setCell ⟨gb191, 5, none⟩ (.int .i64 0)).setCell ⟨gb191, 6, none⟩ (.slice none 0 0)).setCell ⟨gb191, 7, none⟩ (.int .i64 0)).setCell ⟨gb191, 8, none⟩ (.int .i64 0)).setCell ⟨gb191, 9, none⟩ (.int .i64 0)) w0.heap.size (fun k_ => ((P0_4_ k_ ∨ P0_6_ k_) ∨ w.heap.size ≤ k_)) (.slice Ao40 l0_4.length co40) l0_4) := ⟨by (with_reducible repeat (first | apply Kd.R_alloc | apply Kd.R_drewN | apply Kd.R_drew)); exact Kd.R_mono (Kd.R_far (p := ⟨gb191, 9, none⟩) (Kd.R_far (p := ⟨gb191, 8, none⟩) (Kd.R_far (p := ⟨gb191, 7, none⟩) (Kd.R_far (p := ⟨gb191, 6, none⟩) (Kd.R_far (p := ⟨gb191, 5, none⟩) (Kd.R_far (p := ⟨gb191, 4, none⟩) (Kd.R_far (p := ⟨gb191, 3, none⟩) (Kd.R_far (p := ⟨gb191, 2, none⟩) (Kd.R_far (p := ⟨gb191, 1, none⟩) (Kd.R_far (p := ⟨gb191, 0, none⟩) (Kd.R_types HO0_4.out BK191.out (by decide)) (fun _ hk => hk.2) (.int .i64 a0_0)) (fun _ hk => hk.2) (.int .i64 0)) (fun _ hk => hk.2) (.string (⟨#[]⟩ : ByteArray))) (fun _ hk => hk.2) (.string (⟨#[]⟩ : ByteArray))) (fun _ hk => hk.2) (.slice none 0 0)) (fun _ hk => hk.2) (.int .i64 0)) (fun _ hk => hk.2) (.slice none 0 0)) (fun _ hk => hk.2) (.int .i64 0)) (fun _ hk => hk.2) (.int .i64 0)) (fun _ hk => hk.2) (.int .i64 0)) (fun _ hk => hk.1)⟩
        have n1_ : Aside0 (Kd.R (Kd.int .i64) 3 ((((((((((w46.setCell ⟨gb191, 0, none⟩ (.int .i64 a0_0)).setCell ⟨gb191, 1, none⟩ (.int .i64 0)).setCell ⟨gb191, 2, none⟩ (.string (⟨#[]⟩ : ByteArray))).setCell ⟨gb191, 3, none⟩ (.string (⟨#[]⟩ : ByteArray))).setCell ⟨gb191, 4, none⟩ (.slice none 0 0)).setCell ⟨gb191, 5, none⟩ (.int .i64 0)).setCell ⟨gb191, 6, none⟩ (.slice none 0 0)).setCell ⟨gb191, 7, none⟩ (.int .i64 0)).setCell ⟨gb191, 8, none⟩ (.int .i64 0)).setCell ⟨gb191, 9, none⟩ (.int .i64 0)) w0.heap.size (fun k_ => ((P0_4_ k_ ∨ P0_6_ k_) ∨ w.heap.size ≤ k_)) (.slice Ao41 l0_6.length co41) l0_6) := ⟨by (with_reducible repeat (first | apply Kd.R_alloc | apply Kd.R_drewN | apply Kd.R_drew)); exact Kd.R_mono (Kd.R_far (p := ⟨gb191, 9, none⟩) (Kd.R_far (p := ⟨gb191, 8, none⟩) (Kd.R_far (p := ⟨gb191, 7, none⟩) (Kd.R_far (p := ⟨gb191, 6, none⟩) (Kd.R_far (p := ⟨gb191, 5, none⟩) (Kd.R_far (p := ⟨gb191, 4, none⟩) (Kd.R_far (p := ⟨gb191, 3, none⟩) (Kd.R_far (p := ⟨gb191, 2, none⟩) (Kd.R_far (p := ⟨gb191, 1, none⟩) (Kd.R_far (p := ⟨gb191, 0, none⟩) (Kd.R_types HO0_6.out BK191.out (by decide)) (fun _ hk => hk.2) (.int .i64 a0_0)) (fun _ hk => hk.2) (.int .i64 0)) (fun _ hk => hk.2) (.string (⟨#[]⟩ : ByteArray))) (fun _ hk => hk.2) (.string (⟨#[]⟩ : ByteArray))) (fun _ hk => hk.2) (.slice none 0 0)) (fun _ hk => hk.2) (.int .i64 0)) (fun _ hk => hk.2) (.slice none 0 0)) (fun _ hk => hk.2) (.int .i64 0)) (fun _ hk => hk.2) (.int .i64 0)) (fun _ hk => hk.2) (.int .i64 0)) (fun _ hk => hk.1)⟩
        have n2_ : Aside0 (((((((((((w46.setCell ⟨gb191, 0, none⟩ (.int .i64 a0_0)).setCell ⟨gb191, 1, none⟩ (.int .i64 0)).setCell ⟨gb191, 2, none⟩ (.string (⟨#[]⟩ : ByteArray))).setCell ⟨gb191, 3, none⟩ (.string (⟨#[]⟩ : ByteArray))).setCell ⟨gb191, 4, none⟩ (.slice none 0 0)).setCell ⟨gb191, 5, none⟩ (.int .i64 0)).setCell ⟨gb191, 6, none⟩ (.slice none 0 0)).setCell ⟨gb191, 7, none⟩ (.int .i64 0)).setCell ⟨gb191, 8, none⟩ (.int .i64 0)).setCell ⟨gb191, 9, none⟩ (.int .i64 0)).heap[gb189]? = some (.cells #[.int .i64 a0_0, .int .i64 a0_1, .string a0_2, .string a0_3, .slice Ao40 l0_4.length co40, .int .i64 a0_5, .slice Ao41 l0_6.length co41, .int .i64 a0_7, .int .i64 a0_8, .int .i64 a0_9] 61 (0, 0))) := ⟨by (with_reducible repeat (first | refine blk_drewN ?_ _ | refine blk_drew ?_ | refine blk_alloc ?_ _)); refine blk_far ?_ NB189_191.out _; (with_reducible repeat (first | refine blk_drewN ?_ _ | refine blk_drew ?_ | refine blk_alloc ?_ _)); refine blk_far ?_ NB189_191.out _; (with_reducible repeat (first | refine blk_drewN ?_ _ | refine blk_drew ?_ | refine blk_alloc ?_ _)); refine blk_far ?_ NB189_191.out _; (with_reducible repeat (first | refine blk_drewN ?_ _ | refine blk_drew ?_ | refine blk_alloc ?_ _)); refine blk_far ?_ NB189_191.out _; (with_reducible repeat (first | refine blk_drewN ?_ _ | refine blk_drew ?_ | refine blk_alloc ?_ _)); refine blk_far ?_ NB189_191.out _; (with_reducible repeat (first | refine blk_drewN ?_ _ | refine blk_drew ?_ | refine blk_alloc ?_ _)); refine blk_far ?_ NB189_191.out _; (with_reducible repeat (first | refine blk_drewN ?_ _ | refine blk_drew ?_ | refine blk_alloc ?_ _)); refine blk_far ?_ NB189_191.out _; (with_reducible repeat (first | refine blk_drewN ?_ _ | refine blk_drew ?_ | refine blk_alloc ?_ _)); refine blk_far ?_ NB189_191.out _; (with_reducible repeat (first | refine blk_drewN ?_ _ | refine blk_drew ?_ | refine blk_alloc ?_ _)); refine blk_far ?_ NB189_191.out _; (with_reducible repeat (first | refine blk_drewN ?_ _ | refine blk_drew ?_ | refine blk_alloc ?_ _)); refine blk_far ?_ NB189_191.out _; (with_reducible repeat (first | refine blk_drewN ?_ _ | refine blk_drew ?_ | refine blk_alloc ?_ _)); exact BK189.out⟩
        have n3_ : Aside0 (((((((((((w46.setCell ⟨gb191, 0, none⟩ (.int .i64 a0_0)).setCell ⟨gb191, 1, none⟩ (.int .i64 0)).setCell ⟨gb191, 2, none⟩ (.string (⟨#[]⟩ : ByteArray))).setCell ⟨gb191, 3, none⟩ (.string (⟨#[]⟩ : ByteArray))).setCell ⟨gb191, 4, none⟩ (.slice none 0 0)).setCell ⟨gb191, 5, none⟩ (.int .i64 0)).setCell ⟨gb191, 6, none⟩ (.slice none 0 0)).setCell ⟨gb191, 7, none⟩ (.int .i64 0)).setCell ⟨gb191, 8, none⟩ (.int .i64 0)).setCell ⟨gb191, 9, none⟩ (.int .i64 0)).heap[gb190]? = some (.cells #[.int .i64 0, .int .i64 0, .string (⟨#[]⟩ : ByteArray), .string (⟨#[]⟩ : ByteArray), .slice none 0 0, .int .i64 0, .slice none 0 0, .int .i64 0, .int .i64 0, .int .i64 0] 61 (0, 0))) := ⟨by (with_reducible repeat (first | refine blk_drewN ?_ _ | refine blk_drew ?_ | refine blk_alloc ?_ _)); refine blk_far ?_ NB190_191.out _; (with_reducible repeat (first | refine blk_drewN ?_ _ | refine blk_drew ?_ | refine blk_alloc ?_ _)); refine blk_far ?_ NB190_191.out _; (with_reducible repeat (first | refine blk_drewN ?_ _ | refine blk_drew ?_ | refine blk_alloc ?_ _)); refine blk_far ?_ NB190_191.out _; (with_reducible repeat (first | refine blk_drewN ?_ _ | refine blk_drew ?_ | refine blk_alloc ?_ _)); refine blk_far ?_ NB190_191.out _; (with_reducible repeat (first | refine blk_drewN ?_ _ | refine blk_drew ?_ | refine blk_alloc ?_ _)); refine blk_far ?_ NB190_191.out _; (with_reducible repeat (first | refine blk_drewN ?_ _ | refine blk_drew ?_ | refine blk_alloc ?_ _)); refine blk_far ?_ NB190_191.out _; (with_reducible repeat (first | refine blk_drewN ?_ _ | refine blk_drew ?_ | refine blk_alloc ?_ _)); refine blk_far ?_ NB190_191.out _; (with_reducible repeat (first | refine blk_drewN ?_ _ | refine blk_drew ?_ | refine blk_alloc ?_ _)); refine blk_far ?_ NB190_191.out _; (with_reducible repeat (first | refine blk_drewN ?_ _ | refine blk_drew ?_ | refine blk_alloc ?_ _)); refine blk_far ?_ NB190_191.out _; (with_reducible repeat (first | refine blk_drewN ?_ _ | refine blk_drew ?_ | refine blk_alloc ?_ _)); refine blk_far ?_ NB190_191.out _; (with_reducible repeat (first | refine blk_drewN ?_ _ | refine blk_drew ?_ | refine blk_alloc ?_ _)); exact BK190.out⟩
        have n4_ : Aside0 (((((((((((w46.setCell ⟨gb191, 0, none⟩ (.int .i64 a0_0)).setCell ⟨gb191, 1, none⟩ (.int .i64 0)).setCell ⟨gb191, 2, none⟩ (.string (⟨#[]⟩ : ByteArray))).setCell ⟨gb191, 3, none⟩ (.string (⟨#[]⟩ : ByteArray))).setCell ⟨gb191, 4, none⟩ (.slice none 0 0)).setCell ⟨gb191, 5, none⟩ (.int .i64 0)).setCell ⟨gb191, 6, none⟩ (.slice none 0 0)).setCell ⟨gb191, 7, none⟩ (.int .i64 0)).setCell ⟨gb191, 8, none⟩ (.int .i64 0)).setCell ⟨gb191, 9, none⟩ (.int .i64 0)).heap[gb191]? = some (.cells #[.int .i64 a0_0, .int .i64 0, .string (⟨#[]⟩ : ByteArray), .string (⟨#[]⟩ : ByteArray), .slice none 0 0, .int .i64 0, .slice none 0 0, .int .i64 0, .int .i64 0, .int .i64 0] 61 (0, 0))) := ⟨by (with_reducible repeat (first | refine blk_drewN ?_ _ | refine blk_drew ?_ | refine blk_alloc ?_ _)); refine blk_put (cs := #[.int .i64 a0_0, .int .i64 0, .string (⟨#[]⟩ : ByteArray), .string (⟨#[]⟩ : ByteArray), .slice none 0 0, .int .i64 0, .slice none 0 0, .int .i64 0, .int .i64 0, .int .i64 0]) ?_ 9 _ rfl; (with_reducible repeat (first | refine blk_drewN ?_ _ | refine blk_drew ?_ | refine blk_alloc ?_ _)); refine blk_put (cs := #[.int .i64 a0_0, .int .i64 0, .string (⟨#[]⟩ : ByteArray), .string (⟨#[]⟩ : ByteArray), .slice none 0 0, .int .i64 0, .slice none 0 0, .int .i64 0, .int .i64 0, .int .i64 0]) ?_ 8 _ rfl; (with_reducible repeat (first | refine blk_drewN ?_ _ | refine blk_drew ?_ | refine blk_alloc ?_ _)); refine blk_put (cs := #[.int .i64 a0_0, .int .i64 0, .string (⟨#[]⟩ : ByteArray), .string (⟨#[]⟩ : ByteArray), .slice none 0 0, .int .i64 0, .slice none 0 0, .int .i64 0, .int .i64 0, .int .i64 0]) ?_ 7 _ rfl; (with_reducible repeat (first | refine blk_drewN ?_ _ | refine blk_drew ?_ | refine blk_alloc ?_ _)); refine blk_put (cs := #[.int .i64 a0_0, .int .i64 0, .string (⟨#[]⟩ : ByteArray), .string (⟨#[]⟩ : ByteArray), .slice none 0 0, .int .i64 0, .slice none 0 0, .int .i64 0, .int .i64 0, .int .i64 0]) ?_ 6 _ rfl; (with_reducible repeat (first | refine blk_drewN ?_ _ | refine blk_drew ?_ | refine blk_alloc ?_ _)); refine blk_put (cs := #[.int .i64 a0_0, .int .i64 0, .string (⟨#[]⟩ : ByteArray), .string (⟨#[]⟩ : ByteArray), .slice none 0 0, .int .i64 0, .slice none 0 0, .int .i64 0, .int .i64 0, .int .i64 0]) ?_ 5 _ rfl; (with_reducible repeat (first | refine blk_drewN ?_ _ | refine blk_drew ?_ | refine blk_alloc ?_ _)); refine blk_put (cs := #[.int .i64 a0_0, .int .i64 0, .string (⟨#[]⟩ : ByteArray), .string (⟨#[]⟩ : ByteArray), .slice none 0 0, .int .i64 0, .slice none 0 0, .int .i64 0, .int .i64 0, .int .i64 0]) ?_ 4 _ rfl; (with_reducible repeat (first | refine blk_drewN ?_ _ | refine blk_drew ?_ | refine blk_alloc ?_ _)); refine blk_put (cs := #[.int .i64 a0_0, .int .i64 0, .string (⟨#[]⟩ : ByteArray), .string (⟨#[]⟩ : ByteArray), .slice none 0 0, .int .i64 0, .slice none 0 0, .int .i64 0, .int .i64 0, .int .i64 0]) ?_ 3 _ rfl; (with_reducible repeat (first | refine blk_drewN ?_ _ | refine blk_drew ?_ | refine blk_alloc ?_ _)); refine blk_put (cs := #[.int .i64 a0_0, .int .i64 0, .string (⟨#[]⟩ : ByteArray), .string (⟨#[]⟩ : ByteArray), .slice none 0 0, .int .i64 0, .slice none 0 0, .int .i64 0, .int .i64 0, .int .i64 0]) ?_ 2 _ rfl; (with_reducible repeat (first | refine blk_drewN ?_ _ | refine blk_drew ?_ | refine blk_alloc ?_ _)); refine blk_put (cs := #[.int .i64 a0_0, .int .i64 0, .string (⟨#[]⟩ : ByteArray), .string (⟨#[]⟩ : ByteArray), .slice none 0 0, .int .i64 0, .slice none 0 0, .int .i64 0, .int .i64 0, .int .i64 0]) ?_ 1 _ rfl; (with_reducible repeat (first | refine blk_drewN ?_ _ | refine blk_drew ?_ | refine blk_alloc ?_ _)); refine blk_put (cs := #[.int .i64 0, .int .i64 0, .string (⟨#[]⟩ : ByteArray), .string (⟨#[]⟩ : ByteArray), .slice none 0 0, .int .i64 0, .slice none 0 0, .int .i64 0, .int .i64 0, .int .i64 0]) ?_ 0 _ rfl; (with_reducible repeat (first | refine blk_drewN ?_ _ | refine blk_drew ?_ | refine blk_alloc ?_ _)); exact BK191.out⟩
        have n5_ : Aside0 (Kept w ((((((((((w46.setCell ⟨gb191, 0, none⟩ (.int .i64 a0_0)).setCell ⟨gb191, 1, none⟩ (.int .i64 0)).setCell ⟨gb191, 2, none⟩ (.string (⟨#[]⟩ : ByteArray))).setCell ⟨gb191, 3, none⟩ (.string (⟨#[]⟩ : ByteArray))).setCell ⟨gb191, 4, none⟩ (.slice none 0 0)).setCell ⟨gb191, 5, none⟩ (.int .i64 0)).setCell ⟨gb191, 6, none⟩ (.slice none 0 0)).setCell ⟨gb191, 7, none⟩ (.int .i64 0)).setCell ⟨gb191, 8, none⟩ (.int .i64 0)).setCell ⟨gb191, 9, none⟩ (.int .i64 0)) (fun k_ => P0_4_ k_ ∨ P0_6_ k_)) := ⟨by repeat (first | (with_reducible first | exact HK.out | apply Kept.alloc | apply Kept.drewN | apply Kept.drew | refine Kept.setCell ?_ (.inr GW189.out) _ | refine Kept.setCell ?_ (.inr GW190.out) _ | refine Kept.setCell ?_ (.inr GW191.out) _) | exact HK.out)⟩
        have n6_ : Aside0 (Below w0.heap.size w0 ((((((((((w46.setCell ⟨gb191, 0, none⟩ (.int .i64 a0_0)).setCell ⟨gb191, 1, none⟩ (.int .i64 0)).setCell ⟨gb191, 2, none⟩ (.string (⟨#[]⟩ : ByteArray))).setCell ⟨gb191, 3, none⟩ (.string (⟨#[]⟩ : ByteArray))).setCell ⟨gb191, 4, none⟩ (.slice none 0 0)).setCell ⟨gb191, 5, none⟩ (.int .i64 0)).setCell ⟨gb191, 6, none⟩ (.slice none 0 0)).setCell ⟨gb191, 7, none⟩ (.int .i64 0)).setCell ⟨gb191, 8, none⟩ (.int .i64 0)).setCell ⟨gb191, 9, none⟩ (.int .i64 0))) := ⟨by repeat (first | (with_reducible first | exact HB.out | apply below_alloc | apply pw_below_drewN | apply below_drew1 | refine below_set ?_ GE189.out | refine below_set ?_ GE190.out | refine below_set ?_ GE191.out) | exact HB.out)⟩
        (try clear HO0_4)
        (try clear HO0_6)
        (try clear BK189)
        (try clear BK190)
        (try clear BK191)
        (try clear HK)
        (try clear HB)
        generalize ((((((((((w46.setCell ⟨gb191, 0, none⟩ (.int .i64 a0_0)).setCell ⟨gb191, 1, none⟩ (.int .i64 0)).setCell ⟨gb191, 2, none⟩ (.string (⟨#[]⟩ : ByteArray))).setCell ⟨gb191, 3, none⟩ (.string (⟨#[]⟩ : ByteArray))).setCell ⟨gb191, 4, none⟩ (.slice none 0 0)).setCell ⟨gb191, 5, none⟩ (.int .i64 0)).setCell ⟨gb191, 6, none⟩ (.slice none 0 0)).setCell ⟨gb191, 7, none⟩ (.int .i64 0)).setCell ⟨gb191, 8, none⟩ (.int .i64 0)).setCell ⟨gb191, 9, none⟩ (.int .i64 0)) = w51 at n0_ n1_ n2_ n3_ n4_ n5_ n6_ ⊢
        have HO0_4 := n0_
        have HO0_6 := n1_
        have BK189 := n2_
        have BK190 := n3_
        have BK191 := n4_
        have HK := n5_
        have HB := n6_
        clear n0_ n1_ n2_ n3_ n4_ n5_ n6_
        have n0_ := Aside0.mk (Kd.R_drew HO0_4.out)
        have n1_ := Aside0.mk (Kd.R_drew HO0_6.out)
        have n2_ := Aside0.mk (blk_drew BK189.out)
        have n3_ := Aside0.mk (blk_drew BK190.out)
        have n4_ := Aside0.mk (blk_drew BK191.out)
        have n5_ := Aside0.mk (Kept.drew HK.out)
        have n6_ := Aside0.mk (below_drew1 HB.out)
        clear HO0_4
        clear HO0_6
        clear BK189
        clear BK190
        clear BK191
        clear HK
        clear HB
        have HO0_4 := n0_
        have HO0_6 := n1_
        have BK189 := n2_
        have BK190 := n3_
        have BK191 := n4_
        have HK := n5_
        have HB := n6_
        clear n0_ n1_ n2_ n3_ n4_ n5_ n6_
        refine start_ (n := 8) (S := fun w' => w'.cell? ⟨gb189, 0, none⟩ = some (.int .i64 a0_0) ∧ w'.cell? ⟨gb189, 1, none⟩ = some (.int .i64 a0_1) ∧ w'.cell? ⟨gb189, 2, none⟩ = some (.string a0_2) ∧ w'.cell? ⟨gb189, 3, none⟩ = some (.string a0_3) ∧ w'.cell? ⟨gb189, 4, none⟩ = some (.slice Ao40 l0_4.length co40) ∧ w'.cell? ⟨gb189, 5, none⟩ = some (.int .i64 a0_5) ∧ w'.cell? ⟨gb189, 6, none⟩ = some (.slice Ao41 l0_6.length co41) ∧ w'.cell? ⟨gb189, 7, none⟩ = some (.int .i64 a0_7) ∧ w'.cell? ⟨gb189, 8, none⟩ = some (.int .i64 a0_8) ∧ w'.cell? ⟨gb189, 9, none⟩ = some (.int .i64 a0_9)) (ds := []) #[false, false, false, false, false, false, false, false] (by kernel_rfl) rfl rfl ⟨(blk_cell BK189.out 0).trans rfl, (blk_cell BK189.out 1).trans rfl, (blk_cell BK189.out 2).trans rfl, (blk_cell BK189.out 3).trans rfl, (blk_cell BK189.out 4).trans rfl, (blk_cell BK189.out 5).trans rfl, (blk_cell BK189.out 6).trans rfl, (blk_cell BK189.out 7).trans rfl, (blk_cell BK189.out 8).trans rfl, (blk_cell BK189.out 9).trans rfl⟩ (fun hHeld => ?_); refine with_tabW cachepotlaw26_bare.tab8 cachepotlaw26_bare.bits8 (fun HT_ HW_ => ?_)
        generalize w51.drew = w52 at HO0_4 HO0_6 BK189 BK190 BK191 HK HB hHeld ⊢
        refine pure_ (i := 0) (N := some 30) (v := ?_) (a' := ?_) #[true, false, false, false, false, false, false, false] rfl rfl (any_of HT_.out (by kernel_rfl)) (fun _ _ _ h => h) (Or.inl ⟨by rfl, ?_⟩) ?_ ?_
        rotate_left
        · intro w'
          go_simp
          with_reducible rfl
        rotate_left
        · simp only [Act.put, List.setIfInBounds_toArray, List.set_cons_zero, List.set_cons_succ, i64_w, i32_w]
          rfl
        refine pure_ (i := 2) (N := some 32) (v := ?_) (a' := ?_) #[true, false, true, false, false, false, false, false] rfl rfl (any_of HT_.out (by kernel_rfl)) (fun _ _ _ h => h) (Or.inl ⟨by rfl, ?_⟩) ?_ ?_
        rotate_left
        · intro w'
          go_simp
          with_reducible rfl
        rotate_left
        · simp only [Act.put, List.setIfInBounds_toArray, List.set_cons_zero, List.set_cons_succ, i64_w, i32_w]
          rfl
        refine take_ (i := 1) (N := some 31) (v := ?_) (a' := ?_) #[true, true, true, false, false, false, false, false] rfl rfl (take_ofW HT_.out HW_.out (by kernel_rfl)) (fun _ _ _ h => h) (Or.inl ⟨by rfl, ?_⟩) hHeld ?_ ?_
        rotate_left
        · rintro w' ⟨s0, s1, s2, s3, s4, s5, s6, s7, s8, s9⟩
          go_simp
          with_reducible rfl
        rotate_left
        · simp only [Act.put, List.setIfInBounds_toArray, List.set_cons_zero, List.set_cons_succ, i64_w, i32_w]
          rfl
        refine pure_ (i := 4) (N := some 34) (v := ?_) (a' := ?_) #[true, true, true, false, true, false, false, false] rfl rfl (any_of HT_.out (by kernel_rfl)) (fun _ _ _ h => h) (Or.inl ⟨by rfl, ?_⟩) ?_ ?_
        rotate_left
        · intro w'
          go_simp
          with_reducible rfl
        rotate_left
        · simp only [Act.put, List.setIfInBounds_toArray, List.set_cons_zero, List.set_cons_succ, i64_w, i32_w]
          rfl
        refine take_ (i := 3) (N := some 33) (v := ?_) (a' := ?_) #[true, true, true, true, true, false, false, false] rfl rfl (take_ofW HT_.out HW_.out (by kernel_rfl)) (fun _ _ _ h => h) (Or.inl ⟨by rfl, ?_⟩) hHeld ?_ ?_
        rotate_left
        · rintro w' ⟨s0, s1, s2, s3, s4, s5, s6, s7, s8, s9⟩
          go_simp
          with_reducible rfl
        rotate_left
        · simp only [Act.put, List.setIfInBounds_toArray, List.set_cons_zero, List.set_cons_succ, i64_w, i32_w]
          rfl
        refine one_ (i := 5) (N := none) #[true, true, true, true, true, true, false, false] rfl rfl (one_of HT_.out (by kernel_rfl)) (by decide) (fun K hK => ?_)
        have hs53 : w52.cell? ⟨gb191, 1, none⟩ = some (.int .i64 0) := (blk_cell BK191.out 1).trans rfl
        have hfs53 := blk_frozen BK191.out 1
        have hns53_0 := NB189_191.out
        have hns53_1 := NB190_191.out
        have hms53_0 := NB191_189.out
        have hms53_1 := NB191_190.out
        refine skip_ (w1 := ?_) (by rfl) rfl ?_ ?_
        rotate_left
        · go_simp
          rfl
        refine hK.out _ _ ⟨((cell_far (p := ⟨gb191, _, none⟩) NB189_191.out _).trans (hHeld.1)), ((cell_far (p := ⟨gb191, _, none⟩) NB189_191.out _).trans (hHeld.2.1)), ((cell_far (p := ⟨gb191, _, none⟩) NB189_191.out _).trans (hHeld.2.2.1)), ((cell_far (p := ⟨gb191, _, none⟩) NB189_191.out _).trans (hHeld.2.2.2.1)), ((cell_far (p := ⟨gb191, _, none⟩) NB189_191.out _).trans (hHeld.2.2.2.2.1)), ((cell_far (p := ⟨gb191, _, none⟩) NB189_191.out _).trans (hHeld.2.2.2.2.2.1)), ((cell_far (p := ⟨gb191, _, none⟩) NB189_191.out _).trans (hHeld.2.2.2.2.2.2.1)), ((cell_far (p := ⟨gb191, _, none⟩) NB189_191.out _).trans (hHeld.2.2.2.2.2.2.2.1)), ((cell_far (p := ⟨gb191, _, none⟩) NB189_191.out _).trans (hHeld.2.2.2.2.2.2.2.2.1)), ((cell_far (p := ⟨gb191, _, none⟩) NB189_191.out _).trans (hHeld.2.2.2.2.2.2.2.2.2))⟩ (fun hHeld => ?_)
        clear hK K
        refine pure_ (i := 6) (N := some 35) (v := ?_) (a' := ?_) #[true, true, true, true, true, true, true, false] rfl rfl (any_of HT_.out (by kernel_rfl)) (fun _ _ _ h => h) (Or.inl ⟨by rfl, ?_⟩) ?_ ?_
        rotate_left
        · intro w'
          go_simp
          with_reducible rfl
        rotate_left
        · simp only [Act.put, List.setIfInBounds_toArray, List.set_cons_zero, List.set_cons_succ, i64_w, i32_w]
          rfl
        refine one_ (i := 7) (N := none) #[true, true, true, true, true, true, true, true] rfl rfl (one_of HT_.out (by kernel_rfl)) (by decide) (fun K hK => ?_)
        have hs54 : w52.cell? ⟨gb191, 4, none⟩ = some (.slice none 0 0) := (blk_cell BK191.out 4).trans rfl
        have hfs54 := blk_frozen BK191.out 4
        have hns54_0 := NB189_191.out
        have hns54_1 := NB190_191.out
        have hms54_0 := NB191_189.out
        have hms54_1 := NB191_190.out
        refine skip_ (w1 := ?_) (by rfl) rfl ?_ ?_
        rotate_left
        · go_simp
          rfl
        refine hK.out _ _ ⟨((cell_far (p := ⟨gb191, _, none⟩) NB189_191.out _).trans (hHeld.1)), ((cell_far (p := ⟨gb191, _, none⟩) NB189_191.out _).trans (hHeld.2.1)), ((cell_far (p := ⟨gb191, _, none⟩) NB189_191.out _).trans (hHeld.2.2.1)), ((cell_far (p := ⟨gb191, _, none⟩) NB189_191.out _).trans (hHeld.2.2.2.1)), ((cell_far (p := ⟨gb191, _, none⟩) NB189_191.out _).trans (hHeld.2.2.2.2.1)), ((cell_far (p := ⟨gb191, _, none⟩) NB189_191.out _).trans (hHeld.2.2.2.2.2.1)), ((cell_far (p := ⟨gb191, _, none⟩) NB189_191.out _).trans (hHeld.2.2.2.2.2.2.1)), ((cell_far (p := ⟨gb191, _, none⟩) NB189_191.out _).trans (hHeld.2.2.2.2.2.2.2.1)), ((cell_far (p := ⟨gb191, _, none⟩) NB189_191.out _).trans (hHeld.2.2.2.2.2.2.2.2.1)), ((cell_far (p := ⟨gb191, _, none⟩) NB189_191.out _).trans (hHeld.2.2.2.2.2.2.2.2.2))⟩ (fun hHeld => ?_)
        clear hK K
        refine done_ (done_of HT_.out (by kernel_rfl)) ?_
        have hcz55_0 : w52.cell? ⟨gb191, 0, none⟩ = some (.int .i64 a0_0) := (blk_cell BK191.out 0).trans rfl
        have hcz55_1 : w52.cell? ⟨gb191, 1, none⟩ = some (.int .i64 0) := (blk_cell BK191.out 1).trans rfl
        have hcz55_2 : w52.cell? ⟨gb191, 2, none⟩ = some (.string (⟨#[]⟩ : ByteArray)) := (blk_cell BK191.out 2).trans rfl
        have hcz55_3 : w52.cell? ⟨gb191, 3, none⟩ = some (.string (⟨#[]⟩ : ByteArray)) := (blk_cell BK191.out 3).trans rfl
        have hcz55_4 : w52.cell? ⟨gb191, 4, none⟩ = some (.slice none 0 0) := (blk_cell BK191.out 4).trans rfl
        have hcz55_5 : w52.cell? ⟨gb191, 5, none⟩ = some (.int .i64 0) := (blk_cell BK191.out 5).trans rfl
        have hcz55_6 : w52.cell? ⟨gb191, 6, none⟩ = some (.slice none 0 0) := (blk_cell BK191.out 6).trans rfl
        have hcz55_7 : w52.cell? ⟨gb191, 7, none⟩ = some (.int .i64 0) := (blk_cell BK191.out 7).trans rfl
        have hcz55_8 : w52.cell? ⟨gb191, 8, none⟩ = some (.int .i64 0) := (blk_cell BK191.out 8).trans rfl
        have hcz55_9 : w52.cell? ⟨gb191, 9, none⟩ = some (.int .i64 0) := (blk_cell BK191.out 9).trans rfl
        have hfz55_0 := blk_frozen BK191.out 0
        have hfz55_1 := blk_frozen BK191.out 1
        have hfz55_2 := blk_frozen BK191.out 2
        have hfz55_3 := blk_frozen BK191.out 3
        have hfz55_4 := blk_frozen BK191.out 4
        have hfz55_5 := blk_frozen BK191.out 5
        have hfz55_6 := blk_frozen BK191.out 6
        have hfz55_7 := blk_frozen BK191.out 7
        have hfz55_8 := blk_frozen BK191.out 8
        have hfz55_9 := blk_frozen BK191.out 9
        have hcz56_0 : w52.cell? ⟨gb190, 0, none⟩ = some (.int .i64 0) := (blk_cell BK190.out 0).trans rfl
        have hcz56_1 : w52.cell? ⟨gb190, 1, none⟩ = some (.int .i64 0) := (blk_cell BK190.out 1).trans rfl
        have hcz56_2 : w52.cell? ⟨gb190, 2, none⟩ = some (.string (⟨#[]⟩ : ByteArray)) := (blk_cell BK190.out 2).trans rfl
        have hcz56_3 : w52.cell? ⟨gb190, 3, none⟩ = some (.string (⟨#[]⟩ : ByteArray)) := (blk_cell BK190.out 3).trans rfl
        have hcz56_4 : w52.cell? ⟨gb190, 4, none⟩ = some (.slice none 0 0) := (blk_cell BK190.out 4).trans rfl
        have hcz56_5 : w52.cell? ⟨gb190, 5, none⟩ = some (.int .i64 0) := (blk_cell BK190.out 5).trans rfl
        have hcz56_6 : w52.cell? ⟨gb190, 6, none⟩ = some (.slice none 0 0) := (blk_cell BK190.out 6).trans rfl
        have hcz56_7 : w52.cell? ⟨gb190, 7, none⟩ = some (.int .i64 0) := (blk_cell BK190.out 7).trans rfl
        have hcz56_8 : w52.cell? ⟨gb190, 8, none⟩ = some (.int .i64 0) := (blk_cell BK190.out 8).trans rfl
        have hcz56_9 : w52.cell? ⟨gb190, 9, none⟩ = some (.int .i64 0) := (blk_cell BK190.out 9).trans rfl
        have hfz56_0 := blk_frozen BK190.out 0
        have hfz56_1 := blk_frozen BK190.out 1
        have hfz56_2 := blk_frozen BK190.out 2
        have hfz56_3 := blk_frozen BK190.out 3
        have hfz56_4 := blk_frozen BK190.out 4
        have hfz56_5 := blk_frozen BK190.out 5
        have hfz56_6 := blk_frozen BK190.out 6
        have hfz56_7 := blk_frozen BK190.out 7
        have hfz56_8 := blk_frozen BK190.out 8
        have hfz56_9 := blk_frozen BK190.out 9
        try go_wp2
        refine bodyPost_ret (results_cell_row rfl _ _ gb190 61 #[.int .i64 a0_0, .int .i64 a0_1, .string (⟨#[]⟩ : ByteArray), .string (⟨#[]⟩ : ByteArray), .slice Ao40 l0_4.length co40, .int .i64 0, .slice none 0 0, .int .i64 0, .int .i64 0, .int .i64 0] (0, 0) _ rfl (by (with_reducible repeat (first | refine blk_drewN ?_ _ | refine blk_drew ?_ | refine blk_alloc ?_ _)); refine blk_put (cs := #[.int .i64 a0_0, .int .i64 a0_1, .string (⟨#[]⟩ : ByteArray), .string (⟨#[]⟩ : ByteArray), .slice Ao40 l0_4.length co40, .int .i64 0, .slice none 0 0, .int .i64 0, .int .i64 0, .int .i64 0]) ?_ 9 _ rfl; (with_reducible repeat (first | refine blk_drewN ?_ _ | refine blk_drew ?_ | refine blk_alloc ?_ _)); refine blk_put (cs := #[.int .i64 a0_0, .int .i64 a0_1, .string (⟨#[]⟩ : ByteArray), .string (⟨#[]⟩ : ByteArray), .slice Ao40 l0_4.length co40, .int .i64 0, .slice none 0 0, .int .i64 0, .int .i64 0, .int .i64 0]) ?_ 8 _ rfl; (with_reducible repeat (first | refine blk_drewN ?_ _ | refine blk_drew ?_ | refine blk_alloc ?_ _)); refine blk_put (cs := #[.int .i64 a0_0, .int .i64 a0_1, .string (⟨#[]⟩ : ByteArray), .string (⟨#[]⟩ : ByteArray), .slice Ao40 l0_4.length co40, .int .i64 0, .slice none 0 0, .int .i64 0, .int .i64 0, .int .i64 0]) ?_ 7 _ rfl; (with_reducible repeat (first | refine blk_drewN ?_ _ | refine blk_drew ?_ | refine blk_alloc ?_ _)); refine blk_put (cs := #[.int .i64 a0_0, .int .i64 a0_1, .string (⟨#[]⟩ : ByteArray), .string (⟨#[]⟩ : ByteArray), .slice Ao40 l0_4.length co40, .int .i64 0, .slice none 0 0, .int .i64 0, .int .i64 0, .int .i64 0]) ?_ 6 _ rfl; (with_reducible repeat (first | refine blk_drewN ?_ _ | refine blk_drew ?_ | refine blk_alloc ?_ _)); refine blk_put (cs := #[.int .i64 a0_0, .int .i64 a0_1, .string (⟨#[]⟩ : ByteArray), .string (⟨#[]⟩ : ByteArray), .slice Ao40 l0_4.length co40, .int .i64 0, .slice none 0 0, .int .i64 0, .int .i64 0, .int .i64 0]) ?_ 5 _ rfl; (with_reducible repeat (first | refine blk_drewN ?_ _ | refine blk_drew ?_ | refine blk_alloc ?_ _)); refine blk_put (cs := #[.int .i64 a0_0, .int .i64 a0_1, .string (⟨#[]⟩ : ByteArray), .string (⟨#[]⟩ : ByteArray), .slice none 0 0, .int .i64 0, .slice none 0 0, .int .i64 0, .int .i64 0, .int .i64 0]) ?_ 4 _ rfl; (with_reducible repeat (first | refine blk_drewN ?_ _ | refine blk_drew ?_ | refine blk_alloc ?_ _)); refine blk_put (cs := #[.int .i64 a0_0, .int .i64 a0_1, .string (⟨#[]⟩ : ByteArray), .string (⟨#[]⟩ : ByteArray), .slice none 0 0, .int .i64 0, .slice none 0 0, .int .i64 0, .int .i64 0, .int .i64 0]) ?_ 3 _ rfl; (with_reducible repeat (first | refine blk_drewN ?_ _ | refine blk_drew ?_ | refine blk_alloc ?_ _)); refine blk_put (cs := #[.int .i64 a0_0, .int .i64 a0_1, .string (⟨#[]⟩ : ByteArray), .string (⟨#[]⟩ : ByteArray), .slice none 0 0, .int .i64 0, .slice none 0 0, .int .i64 0, .int .i64 0, .int .i64 0]) ?_ 2 _ rfl; (with_reducible repeat (first | refine blk_drewN ?_ _ | refine blk_drew ?_ | refine blk_alloc ?_ _)); refine blk_put (cs := #[.int .i64 a0_0, .int .i64 0, .string (⟨#[]⟩ : ByteArray), .string (⟨#[]⟩ : ByteArray), .slice none 0 0, .int .i64 0, .slice none 0 0, .int .i64 0, .int .i64 0, .int .i64 0]) ?_ 1 _ rfl; (with_reducible repeat (first | refine blk_drewN ?_ _ | refine blk_drew ?_ | refine blk_alloc ?_ _)); refine blk_put (cs := #[.int .i64 0, .int .i64 0, .string (⟨#[]⟩ : ByteArray), .string (⟨#[]⟩ : ByteArray), .slice none 0 0, .int .i64 0, .slice none 0 0, .int .i64 0, .int .i64 0, .int .i64 0]) ?_ 0 _ rfl; (with_reducible repeat (first | refine blk_drewN ?_ _ | refine blk_drew ?_ | refine blk_alloc ?_ _)); refine blk_far ?_ NB190_191.out _; (with_reducible repeat (first | refine blk_drewN ?_ _ | refine blk_drew ?_ | refine blk_alloc ?_ _)); refine blk_far ?_ NB190_191.out _; (with_reducible repeat (first | refine blk_drewN ?_ _ | refine blk_drew ?_ | refine blk_alloc ?_ _)); exact BK190.out) Tryd.underlying61 rfl (by kernel_rfl)) rfl ?_
        exact ⟨_, _, by first | rfl | (simp [errW_none, errW_some] <;> rfl) | (simp [*, errW_none, errW_some] <;> rfl), by (with_reducible repeat (first | apply Kd.R_alloc | apply Kd.R_drewN | apply Kd.R_drew)); exact Kd.R_mono (Kd.R_far (p := ⟨gb190, 9, none⟩) (Kd.R_far (p := ⟨gb190, 8, none⟩) (Kd.R_far (p := ⟨gb190, 7, none⟩) (Kd.R_far (p := ⟨gb190, 6, none⟩) (Kd.R_far (p := ⟨gb190, 5, none⟩) (Kd.R_far (p := ⟨gb190, 4, none⟩) (Kd.R_far (p := ⟨gb190, 3, none⟩) (Kd.R_far (p := ⟨gb190, 2, none⟩) (Kd.R_far (p := ⟨gb190, 1, none⟩) (Kd.R_far (p := ⟨gb190, 0, none⟩) (Kd.R_far (p := ⟨gb191, 4, none⟩) (Kd.R_far (p := ⟨gb191, 1, none⟩) (Kd.R_types (Kd.R_types HO0_4.out BK191.out (by decide)) BK190.out (by decide)) (fun _ hk => hk.1.2) (.int .i64 a0_1)) (fun _ hk => hk.1.2) (.slice Ao40 l0_4.length co40)) (fun _ hk => hk.2) (.int .i64 a0_0)) (fun _ hk => hk.2) (.int .i64 a0_1)) (fun _ hk => hk.2) (.string (⟨#[]⟩ : ByteArray))) (fun _ hk => hk.2) (.string (⟨#[]⟩ : ByteArray))) (fun _ hk => hk.2) (.slice Ao40 l0_4.length co40)) (fun _ hk => hk.2) (.int .i64 0)) (fun _ hk => hk.2) (.slice none 0 0)) (fun _ hk => hk.2) (.int .i64 0)) (fun _ hk => hk.2) (.int .i64 0)) (fun _ hk => hk.2) (.int .i64 0)) (fun _ hk => hk.1.1), by first | exact Kd.R_nil _ _ _ _ _ | exact Kd.N_nil _ _ _ _ _ | exact Kd.V_nil _ _ _ _ _ | exact Kd.Q_nil _ _ _ _ _ | exact Kd.S_nil _ _ _ _ _, by repeat (first | (with_reducible first | exact HB.out | apply below_alloc | apply pw_below_drewN | apply below_drew1 | refine below_set ?_ GE189.out | refine below_set ?_ GE190.out | refine below_set ?_ GE191.out) | exact HB.out), by repeat (first | (with_reducible first | exact HK.out | apply Kept.alloc | apply Kept.drewN | apply Kept.drew | refine Kept.setCell ?_ (.inr GW189.out) _ | refine Kept.setCell ?_ (.inr GW190.out) _ | refine Kept.setCell ?_ (.inr GW191.out) _) | exact HK.out)⟩
      · rw [if_neg c39] at H
        have c39b0 : (a0_0 == 4) = false := beq_eq_false_iff_ne.mpr c39
        have c39b1 : (a0_0 != 4) = true := bne_iff_ne.mpr c39
        have HC57 := Aside0.mk H
        clear H
        obtain ⟨Ao58, co58, eo58⟩ := Kd.R_slice HO0_4.out
        subst eo58
        obtain ⟨Ao59, co59, eo59⟩ := Kd.R_slice HO0_6.out
        subst eo59
        go_enter Tryd.func49, Tryd.ntmps49
        go_upto_if 36 with (first | ((with_reducible refine gate_dst (N := 1) rfl ?_); refine box_event ?hg (N := 1) ?hd (cs := #[.int .i64 a0_0, .int .i64 a0_1, .string a0_2, .string a0_3, .slice Ao58 l0_4.length co58, .int .i64 a0_5, .slice Ao59 l0_6.length co59, .int .i64 a0_7, .int .i64 a0_8, .int .i64 a0_9]) (t := 61) ?hr ?_; (case hd => rfl); (case hg => rfl); (case hr => first | (go_simp; done) | (go_simp; rfl)); intro gb189 hg w60 hbox hb; have n0_ := Aside0.mk (Kd.R_below (by (with_reducible repeat (first | apply Kd.R_alloc | apply Kd.R_drewN | apply Kd.R_drew)); exact HO0_4.out) hb); have n1_ := Aside0.mk (Kd.R_below (by (with_reducible repeat (first | apply Kd.R_alloc | apply Kd.R_drewN | apply Kd.R_drew)); exact HO0_6.out) hb); have n2_ := Aside0.mk (Kept.below (S := (fun k_ => P0_4_ k_ ∨ P0_6_ k_)) (by repeat (first | (with_reducible first | exact HK.out | apply Kept.alloc | apply Kept.drewN | apply Kept.drew) | exact HK.out)) hb); have n3_ := Aside0.mk (below_step (by repeat (first | (with_reducible first | exact HB.out | apply below_alloc | apply pw_below_drewN | apply below_drew1) | exact HB.out)) hb); have n4_ := Aside0.mk (hbox); have n5_ := Aside0.mk ((by rw [hg]; exact (by first | exact HK.out.1 | exact (show Kept w _ (fun k_ => P0_4_ k_ ∨ P0_6_ k_) from by repeat (first | (with_reducible first | exact HK.out | apply Kept.alloc | apply Kept.drewN | apply Kept.drew) | exact HK.out)).1) : w.heap.size ≤ gb189)); have n6_ := Aside0.mk ((by rw [hg]; exact (below_size (by repeat (first | (with_reducible first | exact HB.out | apply below_alloc | apply pw_below_drewN | apply below_drew1) | exact HB.out))) : w0.heap.size ≤ gb189)); clear HO0_4; clear HO0_6; clear HK; clear HB; have HO0_4 := n0_; have HO0_6 := n1_; have HK := n2_; have HB := n3_; have BK189 := n4_; have GW189 := n5_; have GE189 := n6_; clear n0_ n1_ n2_ n3_ n4_ n5_ n6_; clear hb hbox hg) | ((with_reducible refine gate_dst (N := 2) rfl ?_); refine box_event ?hg (N := 2) ?hd (cs := #[.int .i64 0, .int .i64 0, .string (⟨#[]⟩ : ByteArray), .string (⟨#[]⟩ : ByteArray), .slice none 0 0, .int .i64 0, .slice none 0 0, .int .i64 0, .int .i64 0, .int .i64 0]) (t := 61) ?hr ?_; (case hd => rfl); (case hg => rfl); (case hr => first | (go_simp; done) | (go_simp; rfl)); intro gb190 hg w61 hbox hb; have n0_ := Aside0.mk (Kd.R_below (by (with_reducible repeat (first | apply Kd.R_alloc | apply Kd.R_drewN | apply Kd.R_drew)); exact HO0_4.out) hb); have n1_ := Aside0.mk (Kd.R_below (by (with_reducible repeat (first | apply Kd.R_alloc | apply Kd.R_drewN | apply Kd.R_drew)); exact HO0_6.out) hb); have n2_ := Aside0.mk (blk_below (g := gb189) (o := .cells #[.int .i64 a0_0, .int .i64 a0_1, .string a0_2, .string a0_3, .slice Ao58 l0_4.length co58, .int .i64 a0_5, .slice Ao59 l0_6.length co59, .int .i64 a0_7, .int .i64 a0_8, .int .i64 a0_9] 61 (0, 0)) (by (with_reducible repeat (first | refine blk_drewN ?_ _ | refine blk_drew ?_ | refine blk_alloc ?_ _)); exact BK189.out) hb); have n3_ := Aside0.mk (Kept.below (S := (fun k_ => P0_4_ k_ ∨ P0_6_ k_)) (by repeat (first | (with_reducible first | exact HK.out | apply Kept.alloc | apply Kept.drewN | apply Kept.drew | refine Kept.setCell ?_ (.inr GW189.out) _) | exact HK.out)) hb); have n4_ := Aside0.mk (below_step (by repeat (first | (with_reducible first | exact HB.out | apply below_alloc | apply pw_below_drewN | apply below_drew1 | refine below_set ?_ GE189.out) | exact HB.out)) hb); have n5_ := Aside0.mk (hbox); have n6_ := Aside0.mk ((by rw [hg]; exact (by first | exact HK.out.1 | exact (show Kept w _ (fun k_ => P0_4_ k_ ∨ P0_6_ k_) from by repeat (first | (with_reducible first | exact HK.out | apply Kept.alloc | apply Kept.drewN | apply Kept.drew | refine Kept.setCell ?_ (.inr GW189.out) _) | exact HK.out)).1) : w.heap.size ≤ gb190)); have n7_ := Aside0.mk ((by rw [hg]; exact (below_size (by repeat (first | (with_reducible first | exact HB.out | apply below_alloc | apply pw_below_drewN | apply below_drew1 | refine below_set ?_ GE189.out) | exact HB.out))) : w0.heap.size ≤ gb190)); have n8_ := Aside0.mk ((by rw [hg]; exact Nat.ne_of_lt (blk_lt (g := gb189) (o := .cells #[.int .i64 a0_0, .int .i64 a0_1, .string a0_2, .string a0_3, .slice Ao58 l0_4.length co58, .int .i64 a0_5, .slice Ao59 l0_6.length co59, .int .i64 a0_7, .int .i64 a0_8, .int .i64 a0_9] 61 (0, 0)) (by (with_reducible repeat (first | refine blk_drewN ?_ _ | refine blk_drew ?_ | refine blk_alloc ?_ _)); exact BK189.out)) : gb189 ≠ gb190)); have n9_ := Aside0.mk ((by rw [hg]; exact Nat.ne_of_gt (blk_lt (g := gb189) (o := .cells #[.int .i64 a0_0, .int .i64 a0_1, .string a0_2, .string a0_3, .slice Ao58 l0_4.length co58, .int .i64 a0_5, .slice Ao59 l0_6.length co59, .int .i64 a0_7, .int .i64 a0_8, .int .i64 a0_9] 61 (0, 0)) (by (with_reducible repeat (first | refine blk_drewN ?_ _ | refine blk_drew ?_ | refine blk_alloc ?_ _)); exact BK189.out)) : gb190 ≠ gb189)); clear HO0_4; clear HO0_6; clear BK189; clear HK; clear HB; have HO0_4 := n0_; have HO0_6 := n1_; have BK189 := n2_; have HK := n3_; have HB := n4_; have BK190 := n5_; have GW190 := n6_; have GE190 := n7_; have NB189_190 := n8_; have NB190_189 := n9_; clear n0_ n1_ n2_ n3_ n4_ n5_ n6_ n7_ n8_ n9_; clear hb hbox hg; have hnb62 := NB189_190.out; have hnc62 := NB190_189.out; have hcz63_0 : w61.cell? ⟨gb189, 0, none⟩ = some (.int .i64 a0_0) := (blk_cell BK189.out 0).trans rfl; have hcz63_1 : w61.cell? ⟨gb189, 1, none⟩ = some (.int .i64 a0_1) := (blk_cell BK189.out 1).trans rfl; have hcz63_2 : w61.cell? ⟨gb189, 2, none⟩ = some (.string a0_2) := (blk_cell BK189.out 2).trans rfl; have hcz63_3 : w61.cell? ⟨gb189, 3, none⟩ = some (.string a0_3) := (blk_cell BK189.out 3).trans rfl; have hcz63_4 : w61.cell? ⟨gb189, 4, none⟩ = some (.slice Ao58 l0_4.length co58) := (blk_cell BK189.out 4).trans rfl; have hcz63_5 : w61.cell? ⟨gb189, 5, none⟩ = some (.int .i64 a0_5) := (blk_cell BK189.out 5).trans rfl; have hcz63_6 : w61.cell? ⟨gb189, 6, none⟩ = some (.slice Ao59 l0_6.length co59) := (blk_cell BK189.out 6).trans rfl; have hcz63_7 : w61.cell? ⟨gb189, 7, none⟩ = some (.int .i64 a0_7) := (blk_cell BK189.out 7).trans rfl; have hcz63_8 : w61.cell? ⟨gb189, 8, none⟩ = some (.int .i64 a0_8) := (blk_cell BK189.out 8).trans rfl; have hcz63_9 : w61.cell? ⟨gb189, 9, none⟩ = some (.int .i64 a0_9) := (blk_cell BK189.out 9).trans rfl; have hfz63_0 := blk_frozen BK189.out 0; have hfz63_1 := blk_frozen BK189.out 1; have hfz63_2 := blk_frozen BK189.out 2; have hfz63_3 := blk_frozen BK189.out 3; have hfz63_4 := blk_frozen BK189.out 4; have hfz63_5 := blk_frozen BK189.out 5; have hfz63_6 := blk_frozen BK189.out 6; have hfz63_7 := blk_frozen BK189.out 7; have hfz63_8 := blk_frozen BK189.out 8; have hfz63_9 := blk_frozen BK189.out 9) | ((with_reducible refine gate_dst (N := 3) rfl ?_); refine box_event ?hg (N := 3) ?hd (cs := #[.int .i64 0, .int .i64 0, .string (⟨#[]⟩ : ByteArray), .string (⟨#[]⟩ : ByteArray), .slice none 0 0, .int .i64 0, .slice none 0 0, .int .i64 0, .int .i64 0, .int .i64 0]) (t := 61) ?hr ?_; (case hd => rfl); (case hg => rfl); (case hr => first | (go_simp; done) | (go_simp; rfl)); intro gb191 hg w64 hbox hb; have n0_ := Aside0.mk (Kd.R_below (by (with_reducible repeat (first | apply Kd.R_alloc | apply Kd.R_drewN | apply Kd.R_drew)); exact HO0_4.out) hb); have n1_ := Aside0.mk (Kd.R_below (by (with_reducible repeat (first | apply Kd.R_alloc | apply Kd.R_drewN | apply Kd.R_drew)); exact HO0_6.out) hb); have n2_ := Aside0.mk (blk_below (g := gb189) (o := .cells #[.int .i64 a0_0, .int .i64 a0_1, .string a0_2, .string a0_3, .slice Ao58 l0_4.length co58, .int .i64 a0_5, .slice Ao59 l0_6.length co59, .int .i64 a0_7, .int .i64 a0_8, .int .i64 a0_9] 61 (0, 0)) (by (with_reducible repeat (first | refine blk_drewN ?_ _ | refine blk_drew ?_ | refine blk_alloc ?_ _)); exact BK189.out) hb); have n3_ := Aside0.mk (blk_below (g := gb190) (o := .cells #[.int .i64 0, .int .i64 0, .string (⟨#[]⟩ : ByteArray), .string (⟨#[]⟩ : ByteArray), .slice none 0 0, .int .i64 0, .slice none 0 0, .int .i64 0, .int .i64 0, .int .i64 0] 61 (0, 0)) (by (with_reducible repeat (first | refine blk_drewN ?_ _ | refine blk_drew ?_ | refine blk_alloc ?_ _)); exact BK190.out) hb); have n4_ := Aside0.mk (Kept.below (S := (fun k_ => P0_4_ k_ ∨ P0_6_ k_)) (by repeat (first | (with_reducible first | exact HK.out | apply Kept.alloc | apply Kept.drewN | apply Kept.drew | refine Kept.setCell ?_ (.inr GW189.out) _ | refine Kept.setCell ?_ (.inr GW190.out) _) | exact HK.out)) hb); have n5_ := Aside0.mk (below_step (by repeat (first | (with_reducible first | exact HB.out | apply below_alloc | apply pw_below_drewN | apply below_drew1 | refine below_set ?_ GE189.out | refine below_set ?_ GE190.out) | exact HB.out)) hb); have n6_ := Aside0.mk (hbox); have n7_ := Aside0.mk ((by rw [hg]; exact (by first | exact HK.out.1 | exact (show Kept w _ (fun k_ => P0_4_ k_ ∨ P0_6_ k_) from by repeat (first | (with_reducible first | exact HK.out | apply Kept.alloc | apply Kept.drewN | apply Kept.drew | refine Kept.setCell ?_ (.inr GW189.out) _ | refine Kept.setCell ?_ (.inr GW190.out) _) | exact HK.out)).1) : w.heap.size ≤ gb191)); have n8_ := Aside0.mk ((by rw [hg]; exact (below_size (by repeat (first | (with_reducible first | exact HB.out | apply below_alloc | apply pw_below_drewN | apply below_drew1 | refine below_set ?_ GE189.out | refine below_set ?_ GE190.out) | exact HB.out))) : w0.heap.size ≤ gb191)); have n9_ := Aside0.mk ((by rw [hg]; exact Nat.ne_of_lt (blk_lt (g := gb189) (o := .cells #[.int .i64 a0_0, .int .i64 a0_1, .string a0_2, .string a0_3, .slice Ao58 l0_4.length co58, .int .i64 a0_5, .slice Ao59 l0_6.length co59, .int .i64 a0_7, .int .i64 a0_8, .int .i64 a0_9] 61 (0, 0)) (by (with_reducible repeat (first | refine blk_drewN ?_ _ | refine blk_drew ?_ | refine blk_alloc ?_ _)); exact BK189.out)) : gb189 ≠ gb191)); have n10_ := Aside0.mk ((by rw [hg]; exact Nat.ne_of_gt (blk_lt (g := gb189) (o := .cells #[.int .i64 a0_0, .int .i64 a0_1, .string a0_2, .string a0_3, .slice Ao58 l0_4.length co58, .int .i64 a0_5, .slice Ao59 l0_6.length co59, .int .i64 a0_7, .int .i64 a0_8, .int .i64 a0_9] 61 (0, 0)) (by (with_reducible repeat (first | refine blk_drewN ?_ _ | refine blk_drew ?_ | refine blk_alloc ?_ _)); exact BK189.out)) : gb191 ≠ gb189)); have n11_ := Aside0.mk ((by rw [hg]; exact Nat.ne_of_lt (blk_lt (g := gb190) (o := .cells #[.int .i64 0, .int .i64 0, .string (⟨#[]⟩ : ByteArray), .string (⟨#[]⟩ : ByteArray), .slice none 0 0, .int .i64 0, .slice none 0 0, .int .i64 0, .int .i64 0, .int .i64 0] 61 (0, 0)) (by (with_reducible repeat (first | refine blk_drewN ?_ _ | refine blk_drew ?_ | refine blk_alloc ?_ _)); exact BK190.out)) : gb190 ≠ gb191)); have n12_ := Aside0.mk ((by rw [hg]; exact Nat.ne_of_gt (blk_lt (g := gb190) (o := .cells #[.int .i64 0, .int .i64 0, .string (⟨#[]⟩ : ByteArray), .string (⟨#[]⟩ : ByteArray), .slice none 0 0, .int .i64 0, .slice none 0 0, .int .i64 0, .int .i64 0, .int .i64 0] 61 (0, 0)) (by (with_reducible repeat (first | refine blk_drewN ?_ _ | refine blk_drew ?_ | refine blk_alloc ?_ _)); exact BK190.out)) : gb191 ≠ gb190)); clear HO0_4; clear HO0_6; clear BK189; clear BK190; clear HK; clear HB; have HO0_4 := n0_; have HO0_6 := n1_; have BK189 := n2_; have BK190 := n3_; have HK := n4_; have HB := n5_; have BK191 := n6_; have GW191 := n7_; have GE191 := n8_; have NB189_191 := n9_; have NB191_189 := n10_; have NB190_191 := n11_; have NB191_190 := n12_; clear n0_ n1_ n2_ n3_ n4_ n5_ n6_ n7_ n8_ n9_ n10_ n11_ n12_; clear hb hbox hg; have hnb65 := NB191_189.out; have hnc65 := NB189_191.out; have hnb66 := NB191_190.out; have hnc66 := NB190_191.out; have hcz67_0 : w64.cell? ⟨gb191, 0, none⟩ = some (.int .i64 0) := (blk_cell BK191.out 0).trans rfl; have hcz67_1 : w64.cell? ⟨gb191, 1, none⟩ = some (.int .i64 0) := (blk_cell BK191.out 1).trans rfl; have hcz67_2 : w64.cell? ⟨gb191, 2, none⟩ = some (.string (⟨#[]⟩ : ByteArray)) := (blk_cell BK191.out 2).trans rfl; have hcz67_3 : w64.cell? ⟨gb191, 3, none⟩ = some (.string (⟨#[]⟩ : ByteArray)) := (blk_cell BK191.out 3).trans rfl; have hcz67_4 : w64.cell? ⟨gb191, 4, none⟩ = some (.slice none 0 0) := (blk_cell BK191.out 4).trans rfl; have hcz67_5 : w64.cell? ⟨gb191, 5, none⟩ = some (.int .i64 0) := (blk_cell BK191.out 5).trans rfl; have hcz67_6 : w64.cell? ⟨gb191, 6, none⟩ = some (.slice none 0 0) := (blk_cell BK191.out 6).trans rfl; have hcz67_7 : w64.cell? ⟨gb191, 7, none⟩ = some (.int .i64 0) := (blk_cell BK191.out 7).trans rfl; have hcz67_8 : w64.cell? ⟨gb191, 8, none⟩ = some (.int .i64 0) := (blk_cell BK191.out 8).trans rfl; have hcz67_9 : w64.cell? ⟨gb191, 9, none⟩ = some (.int .i64 0) := (blk_cell BK191.out 9).trans rfl; have hfz67_0 := blk_frozen BK191.out 0; have hfz67_1 := blk_frozen BK191.out 1; have hfz67_2 := blk_frozen BK191.out 2; have hfz67_3 := blk_frozen BK191.out 3; have hfz67_4 := blk_frozen BK191.out 4; have hfz67_5 := blk_frozen BK191.out 5; have hfz67_6 := blk_frozen BK191.out 6; have hfz67_7 := blk_frozen BK191.out 7; have hfz67_8 := blk_frozen BK191.out 8; have hfz67_9 := blk_frozen BK191.out 9; have hcz68_0 : w64.cell? ⟨gb189, 0, none⟩ = some (.int .i64 a0_0) := (blk_cell BK189.out 0).trans rfl; have hcz68_1 : w64.cell? ⟨gb189, 1, none⟩ = some (.int .i64 a0_1) := (blk_cell BK189.out 1).trans rfl; have hcz68_2 : w64.cell? ⟨gb189, 2, none⟩ = some (.string a0_2) := (blk_cell BK189.out 2).trans rfl; have hcz68_3 : w64.cell? ⟨gb189, 3, none⟩ = some (.string a0_3) := (blk_cell BK189.out 3).trans rfl; have hcz68_4 : w64.cell? ⟨gb189, 4, none⟩ = some (.slice Ao58 l0_4.length co58) := (blk_cell BK189.out 4).trans rfl; have hcz68_5 : w64.cell? ⟨gb189, 5, none⟩ = some (.int .i64 a0_5) := (blk_cell BK189.out 5).trans rfl; have hcz68_6 : w64.cell? ⟨gb189, 6, none⟩ = some (.slice Ao59 l0_6.length co59) := (blk_cell BK189.out 6).trans rfl; have hcz68_7 : w64.cell? ⟨gb189, 7, none⟩ = some (.int .i64 a0_7) := (blk_cell BK189.out 7).trans rfl; have hcz68_8 : w64.cell? ⟨gb189, 8, none⟩ = some (.int .i64 a0_8) := (blk_cell BK189.out 8).trans rfl; have hcz68_9 : w64.cell? ⟨gb189, 9, none⟩ = some (.int .i64 a0_9) := (blk_cell BK189.out 9).trans rfl; have hfz68_0 := blk_frozen BK189.out 0; have hfz68_1 := blk_frozen BK189.out 1; have hfz68_2 := blk_frozen BK189.out 2; have hfz68_3 := blk_frozen BK189.out 3; have hfz68_4 := blk_frozen BK189.out 4; have hfz68_5 := blk_frozen BK189.out 5; have hfz68_6 := blk_frozen BK189.out 6; have hfz68_7 := blk_frozen BK189.out 7; have hfz68_8 := blk_frozen BK189.out 8; have hfz68_9 := blk_frozen BK189.out 9))
        (try simp only [Act.put, List.setIfInBounds_toArray, List.set_cons_zero, List.set_cons_succ])
        go_cut [36] (fun v36 wc => ∃ (kq : Nat) (x36_56 : Bool), v36 = .bool x36_56 ∧ Aside0 (cachepotlaw26_bare.j0 kq a0_0 x36_56 a0_0 a0_1 a0_2 a0_3 l0_4 a0_5 l0_6 a0_7 a0_8 a0_9 a0_0 0 (⟨#[]⟩ : ByteArray) (⟨#[]⟩ : ByteArray) 0 0 0 0 = some (r1, r2, r3, r4, r5, r6, r7, r8, r9, r10)) ∧ Aside0 (kq ≤ k) ∧ Aside0 (Kd.R Kd.string 9 wc w0.heap.size (fun k_ => ((P0_4_ k_ ∨ P0_6_ k_) ∨ w.heap.size ≤ k_)) (.slice Ao58 l0_4.length co58) l0_4) ∧ Aside0 (Kd.R (Kd.int .i64) 3 wc w0.heap.size (fun k_ => ((P0_4_ k_ ∨ P0_6_ k_) ∨ w.heap.size ≤ k_)) (.slice Ao59 l0_6.length co59) l0_6) ∧ Aside0 (wc.heap[gb189]? = some (.cells #[.int .i64 a0_0, .int .i64 a0_1, .string a0_2, .string a0_3, (.slice Ao58 l0_4.length co58), .int .i64 a0_5, (.slice Ao59 l0_6.length co59), .int .i64 a0_7, .int .i64 a0_8, .int .i64 a0_9] 61 (0, 0))) ∧ Aside0 (wc.heap[gb190]? = some (.cells #[.int .i64 0, .int .i64 0, .string (⟨#[]⟩ : ByteArray), .string (⟨#[]⟩ : ByteArray), (.slice none 0 0), .int .i64 0, (.slice none 0 0), .int .i64 0, .int .i64 0, .int .i64 0] 61 (0, 0))) ∧ Aside0 (wc.heap[gb191]? = some (.cells #[.int .i64 a0_0, .int .i64 0, .string (⟨#[]⟩ : ByteArray), .string (⟨#[]⟩ : ByteArray), (.slice none 0 0), .int .i64 0, (.slice none 0 0), .int .i64 0, .int .i64 0, .int .i64 0] 61 (0, 0))) ∧ Aside0 (Kept w wc (fun k_ => P0_4_ k_ ∨ P0_6_ k_)) ∧ Aside0 (Below w0.heap.size w0 wc))
        case first =>
          have H := HC57.out
          clear HC57
          by_cases c69 : a0_0 = 5
          · rw [if_pos c69] at H
            have c69b0 : (a0_0 == 5) = true := beq_iff_eq.mpr c69
            have c69b1 : (a0_0 != 5) = false := bne_eq_false_iff_eq.mpr c69
            clear c69
            (first | rw [c69b0] | (simp only [i64_w, i32_w]; rw [c69b0]) | skip)
            have H' := Aside0.mk H
            clear H
            go_wp2
            go_meet
            case rel => exact ⟨_, ((a0_0 == 5)), (by first | rfl | (simp; done) | (simp [*]; done)), H', ⟨by first | omega | exact Nat.le_refl _⟩, ⟨by (with_reducible repeat (first | apply Kd.R_alloc | apply Kd.R_drewN | apply Kd.R_drew)); exact Kd.R_mono (Kd.R_far (p := ⟨gb191, 9, none⟩) (Kd.R_far (p := ⟨gb191, 8, none⟩) (Kd.R_far (p := ⟨gb191, 7, none⟩) (Kd.R_far (p := ⟨gb191, 6, none⟩) (Kd.R_far (p := ⟨gb191, 5, none⟩) (Kd.R_far (p := ⟨gb191, 4, none⟩) (Kd.R_far (p := ⟨gb191, 3, none⟩) (Kd.R_far (p := ⟨gb191, 2, none⟩) (Kd.R_far (p := ⟨gb191, 1, none⟩) (Kd.R_far (p := ⟨gb191, 0, none⟩) (Kd.R_types HO0_4.out BK191.out (by decide)) (fun _ hk => hk.2) (.int .i64 a0_0)) (fun _ hk => hk.2) (.int .i64 0)) (fun _ hk => hk.2) (.string (⟨#[]⟩ : ByteArray))) (fun _ hk => hk.2) (.string (⟨#[]⟩ : ByteArray))) (fun _ hk => hk.2) (.slice none 0 0)) (fun _ hk => hk.2) (.int .i64 0)) (fun _ hk => hk.2) (.slice none 0 0)) (fun _ hk => hk.2) (.int .i64 0)) (fun _ hk => hk.2) (.int .i64 0)) (fun _ hk => hk.2) (.int .i64 0)) (fun _ hk => hk.1)⟩, ⟨by (with_reducible repeat (first | apply Kd.R_alloc | apply Kd.R_drewN | apply Kd.R_drew)); exact Kd.R_mono (Kd.R_far (p := ⟨gb191, 9, none⟩) (Kd.R_far (p := ⟨gb191, 8, none⟩) (Kd.R_far (p := ⟨gb191, 7, none⟩) (Kd.R_far (p := ⟨gb191, 6, none⟩) (Kd.R_far (p := ⟨gb191, 5, none⟩) (Kd.R_far (p := ⟨gb191, 4, none⟩) (Kd.R_far (p := ⟨gb191, 3, none⟩) (Kd.R_far (p := ⟨gb191, 2, none⟩) (Kd.R_far (p := ⟨gb191, 1, none⟩) (Kd.R_far (p := ⟨gb191, 0, none⟩) (Kd.R_types HO0_6.out BK191.out (by decide)) (fun _ hk => hk.2) (.int .i64 a0_0)) (fun _ hk => hk.2) (.int .i64 0)) (fun _ hk => hk.2) (.string (⟨#[]⟩ : ByteArray))) (fun _ hk => hk.2) (.string (⟨#[]⟩ : ByteArray))) (fun _ hk => hk.2) (.slice none 0 0)) (fun _ hk => hk.2) (.int .i64 0)) (fun _ hk => hk.2) (.slice none 0 0)) (fun _ hk => hk.2) (.int .i64 0)) (fun _ hk => hk.2) (.int .i64 0)) (fun _ hk => hk.2) (.int .i64 0)) (fun _ hk => hk.1)⟩, ⟨by (with_reducible repeat (first | refine blk_drewN ?_ _ | refine blk_drew ?_ | refine blk_alloc ?_ _)); refine blk_far ?_ NB189_191.out _; (with_reducible repeat (first | refine blk_drewN ?_ _ | refine blk_drew ?_ | refine blk_alloc ?_ _)); refine blk_far ?_ NB189_191.out _; (with_reducible repeat (first | refine blk_drewN ?_ _ | refine blk_drew ?_ | refine blk_alloc ?_ _)); refine blk_far ?_ NB189_191.out _; (with_reducible repeat (first | refine blk_drewN ?_ _ | refine blk_drew ?_ | refine blk_alloc ?_ _)); refine blk_far ?_ NB189_191.out _; (with_reducible repeat (first | refine blk_drewN ?_ _ | refine blk_drew ?_ | refine blk_alloc ?_ _)); refine blk_far ?_ NB189_191.out _; (with_reducible repeat (first | refine blk_drewN ?_ _ | refine blk_drew ?_ | refine blk_alloc ?_ _)); refine blk_far ?_ NB189_191.out _; (with_reducible repeat (first | refine blk_drewN ?_ _ | refine blk_drew ?_ | refine blk_alloc ?_ _)); refine blk_far ?_ NB189_191.out _; (with_reducible repeat (first | refine blk_drewN ?_ _ | refine blk_drew ?_ | refine blk_alloc ?_ _)); refine blk_far ?_ NB189_191.out _; (with_reducible repeat (first | refine blk_drewN ?_ _ | refine blk_drew ?_ | refine blk_alloc ?_ _)); refine blk_far ?_ NB189_191.out _; (with_reducible repeat (first | refine blk_drewN ?_ _ | refine blk_drew ?_ | refine blk_alloc ?_ _)); refine blk_far ?_ NB189_191.out _; (with_reducible repeat (first | refine blk_drewN ?_ _ | refine blk_drew ?_ | refine blk_alloc ?_ _)); exact BK189.out⟩, ⟨by (with_reducible repeat (first | refine blk_drewN ?_ _ | refine blk_drew ?_ | refine blk_alloc ?_ _)); refine blk_far ?_ NB190_191.out _; (with_reducible repeat (first | refine blk_drewN ?_ _ | refine blk_drew ?_ | refine blk_alloc ?_ _)); refine blk_far ?_ NB190_191.out _; (with_reducible repeat (first | refine blk_drewN ?_ _ | refine blk_drew ?_ | refine blk_alloc ?_ _)); refine blk_far ?_ NB190_191.out _; (with_reducible repeat (first | refine blk_drewN ?_ _ | refine blk_drew ?_ | refine blk_alloc ?_ _)); refine blk_far ?_ NB190_191.out _; (with_reducible repeat (first | refine blk_drewN ?_ _ | refine blk_drew ?_ | refine blk_alloc ?_ _)); refine blk_far ?_ NB190_191.out _; (with_reducible repeat (first | refine blk_drewN ?_ _ | refine blk_drew ?_ | refine blk_alloc ?_ _)); refine blk_far ?_ NB190_191.out _; (with_reducible repeat (first | refine blk_drewN ?_ _ | refine blk_drew ?_ | refine blk_alloc ?_ _)); refine blk_far ?_ NB190_191.out _; (with_reducible repeat (first | refine blk_drewN ?_ _ | refine blk_drew ?_ | refine blk_alloc ?_ _)); refine blk_far ?_ NB190_191.out _; (with_reducible repeat (first | refine blk_drewN ?_ _ | refine blk_drew ?_ | refine blk_alloc ?_ _)); refine blk_far ?_ NB190_191.out _; (with_reducible repeat (first | refine blk_drewN ?_ _ | refine blk_drew ?_ | refine blk_alloc ?_ _)); refine blk_far ?_ NB190_191.out _; (with_reducible repeat (first | refine blk_drewN ?_ _ | refine blk_drew ?_ | refine blk_alloc ?_ _)); exact BK190.out⟩, ⟨by (with_reducible repeat (first | refine blk_drewN ?_ _ | refine blk_drew ?_ | refine blk_alloc ?_ _)); refine blk_put (cs := #[.int .i64 a0_0, .int .i64 0, .string (⟨#[]⟩ : ByteArray), .string (⟨#[]⟩ : ByteArray), .slice none 0 0, .int .i64 0, .slice none 0 0, .int .i64 0, .int .i64 0, .int .i64 0]) ?_ 9 _ rfl; (with_reducible repeat (first | refine blk_drewN ?_ _ | refine blk_drew ?_ | refine blk_alloc ?_ _)); refine blk_put (cs := #[.int .i64 a0_0, .int .i64 0, .string (⟨#[]⟩ : ByteArray), .string (⟨#[]⟩ : ByteArray), .slice none 0 0, .int .i64 0, .slice none 0 0, .int .i64 0, .int .i64 0, .int .i64 0]) ?_ 8 _ rfl; (with_reducible repeat (first | refine blk_drewN ?_ _ | refine blk_drew ?_ | refine blk_alloc ?_ _)); refine blk_put (cs := #[.int .i64 a0_0, .int .i64 0, .string (⟨#[]⟩ : ByteArray), .string (⟨#[]⟩ : ByteArray), .slice none 0 0, .int .i64 0, .slice none 0 0, .int .i64 0, .int .i64 0, .int .i64 0]) ?_ 7 _ rfl; (with_reducible repeat (first | refine blk_drewN ?_ _ | refine blk_drew ?_ | refine blk_alloc ?_ _)); refine blk_put (cs := #[.int .i64 a0_0, .int .i64 0, .string (⟨#[]⟩ : ByteArray), .string (⟨#[]⟩ : ByteArray), .slice none 0 0, .int .i64 0, .slice none 0 0, .int .i64 0, .int .i64 0, .int .i64 0]) ?_ 6 _ rfl; (with_reducible repeat (first | refine blk_drewN ?_ _ | refine blk_drew ?_ | refine blk_alloc ?_ _)); refine blk_put (cs := #[.int .i64 a0_0, .int .i64 0, .string (⟨#[]⟩ : ByteArray), .string (⟨#[]⟩ : ByteArray), .slice none 0 0, .int .i64 0, .slice none 0 0, .int .i64 0, .int .i64 0, .int .i64 0]) ?_ 5 _ rfl; (with_reducible repeat (first | refine blk_drewN ?_ _ | refine blk_drew ?_ | refine blk_alloc ?_ _)); refine blk_put (cs := #[.int .i64 a0_0, .int .i64 0, .string (⟨#[]⟩ : ByteArray), .string (⟨#[]⟩ : ByteArray), .slice none 0 0, .int .i64 0, .slice none 0 0, .int .i64 0, .int .i64 0, .int .i64 0]) ?_ 4 _ rfl; (with_reducible repeat (first | refine blk_drewN ?_ _ | refine blk_drew ?_ | refine blk_alloc ?_ _)); refine blk_put (cs := #[.int .i64 a0_0, .int .i64 0, .string (⟨#[]⟩ : ByteArray), .string (⟨#[]⟩ : ByteArray), .slice none 0 0, .int .i64 0, .slice none 0 0, .int .i64 0, .int .i64 0, .int .i64 0]) ?_ 3 _ rfl; (with_reducible repeat (first | refine blk_drewN ?_ _ | refine blk_drew ?_ | refine blk_alloc ?_ _)); refine blk_put (cs := #[.int .i64 a0_0, .int .i64 0, .string (⟨#[]⟩ : ByteArray), .string (⟨#[]⟩ : ByteArray), .slice none 0 0, .int .i64 0, .slice none 0 0, .int .i64 0, .int .i64 0, .int .i64 0]) ?_ 2 _ rfl; (with_reducible repeat (first | refine blk_drewN ?_ _ | refine blk_drew ?_ | refine blk_alloc ?_ _)); refine blk_put (cs := #[.int .i64 a0_0, .int .i64 0, .string (⟨#[]⟩ : ByteArray), .string (⟨#[]⟩ : ByteArray), .slice none 0 0, .int .i64 0, .slice none 0 0, .int .i64 0, .int .i64 0, .int .i64 0]) ?_ 1 _ rfl; (with_reducible repeat (first | refine blk_drewN ?_ _ | refine blk_drew ?_ | refine blk_alloc ?_ _)); refine blk_put (cs := #[.int .i64 0, .int .i64 0, .string (⟨#[]⟩ : ByteArray), .string (⟨#[]⟩ : ByteArray), .slice none 0 0, .int .i64 0, .slice none 0 0, .int .i64 0, .int .i64 0, .int .i64 0]) ?_ 0 _ rfl; (with_reducible repeat (first | refine blk_drewN ?_ _ | refine blk_drew ?_ | refine blk_alloc ?_ _)); exact BK191.out⟩, ⟨by repeat (first | (with_reducible first | exact HK.out | apply Kept.alloc | apply Kept.drewN | apply Kept.drew | refine Kept.setCell ?_ (.inr GW189.out) _ | refine Kept.setCell ?_ (.inr GW190.out) _ | refine Kept.setCell ?_ (.inr GW191.out) _) | exact HK.out)⟩, ⟨by repeat (first | (with_reducible first | exact HB.out | apply below_alloc | apply pw_below_drewN | apply below_drew1 | refine below_set ?_ GE189.out | refine below_set ?_ GE190.out | refine below_set ?_ GE191.out) | exact HB.out)⟩⟩
          · rw [if_neg c69] at H
            have c69b0 : (a0_0 == 5) = false := beq_eq_false_iff_ne.mpr c69
            have c69b1 : (a0_0 != 5) = true := bne_iff_ne.mpr c69
            (first | rw [c69b0] | (simp only [i64_w, i32_w]; rw [c69b0]) | skip)
            have H' := Aside0.mk H
            clear H
            go_wp2
            go_meet
            case rel => exact ⟨_, ((a0_0 == 6)), (by first | rfl | (simp; done) | (simp [*]; done)), H', ⟨by first | omega | exact Nat.le_refl _⟩, ⟨by (with_reducible repeat (first | apply Kd.R_alloc | apply Kd.R_drewN | apply Kd.R_drew)); exact Kd.R_mono (Kd.R_far (p := ⟨gb191, 9, none⟩) (Kd.R_far (p := ⟨gb191, 8, none⟩) (Kd.R_far (p := ⟨gb191, 7, none⟩) (Kd.R_far (p := ⟨gb191, 6, none⟩) (Kd.R_far (p := ⟨gb191, 5, none⟩) (Kd.R_far (p := ⟨gb191, 4, none⟩) (Kd.R_far (p := ⟨gb191, 3, none⟩) (Kd.R_far (p := ⟨gb191, 2, none⟩) (Kd.R_far (p := ⟨gb191, 1, none⟩) (Kd.R_far (p := ⟨gb191, 0, none⟩) (Kd.R_types HO0_4.out BK191.out (by decide)) (fun _ hk => hk.2) (.int .i64 a0_0)) (fun _ hk => hk.2) (.int .i64 0)) (fun _ hk => hk.2) (.string (⟨#[]⟩ : ByteArray))) (fun _ hk => hk.2) (.string (⟨#[]⟩ : ByteArray))) (fun _ hk => hk.2) (.slice none 0 0)) (fun _ hk => hk.2) (.int .i64 0)) (fun _ hk => hk.2) (.slice none 0 0)) (fun _ hk => hk.2) (.int .i64 0)) (fun _ hk => hk.2) (.int .i64 0)) (fun _ hk => hk.2) (.int .i64 0)) (fun _ hk => hk.1)⟩, ⟨by (with_reducible repeat (first | apply Kd.R_alloc | apply Kd.R_drewN | apply Kd.R_drew)); exact Kd.R_mono (Kd.R_far (p := ⟨gb191, 9, none⟩) (Kd.R_far (p := ⟨gb191, 8, none⟩) (Kd.R_far (p := ⟨gb191, 7, none⟩) (Kd.R_far (p := ⟨gb191, 6, none⟩) (Kd.R_far (p := ⟨gb191, 5, none⟩) (Kd.R_far (p := ⟨gb191, 4, none⟩) (Kd.R_far (p := ⟨gb191, 3, none⟩) (Kd.R_far (p := ⟨gb191, 2, none⟩) (Kd.R_far (p := ⟨gb191, 1, none⟩) (Kd.R_far (p := ⟨gb191, 0, none⟩) (Kd.R_types HO0_6.out BK191.out (by decide)) (fun _ hk => hk.2) (.int .i64 a0_0)) (fun _ hk => hk.2) (.int .i64 0)) (fun _ hk => hk.2) (.string (⟨#[]⟩ : ByteArray))) (fun _ hk => hk.2) (.string (⟨#[]⟩ : ByteArray))) (fun _ hk => hk.2) (.slice none 0 0)) (fun _ hk => hk.2) (.int .i64 0)) (fun _ hk => hk.2) (.slice none 0 0)) (fun _ hk => hk.2) (.int .i64 0)) (fun _ hk => hk.2) (.int .i64 0)) (fun _ hk => hk.2) (.int .i64 0)) (fun _ hk => hk.1)⟩, ⟨by (with_reducible repeat (first | refine blk_drewN ?_ _ | refine blk_drew ?_ | refine blk_alloc ?_ _)); refine blk_far ?_ NB189_191.out _; (with_reducible repeat (first | refine blk_drewN ?_ _ | refine blk_drew ?_ | refine blk_alloc ?_ _)); refine blk_far ?_ NB189_191.out _; (with_reducible repeat (first | refine blk_drewN ?_ _ | refine blk_drew ?_ | refine blk_alloc ?_ _)); refine blk_far ?_ NB189_191.out _; (with_reducible repeat (first | refine blk_drewN ?_ _ | refine blk_drew ?_ | refine blk_alloc ?_ _)); refine blk_far ?_ NB189_191.out _; (with_reducible repeat (first | refine blk_drewN ?_ _ | refine blk_drew ?_ | refine blk_alloc ?_ _)); refine blk_far ?_ NB189_191.out _; (with_reducible repeat (first | refine blk_drewN ?_ _ | refine blk_drew ?_ | refine blk_alloc ?_ _)); refine blk_far ?_ NB189_191.out _; (with_reducible repeat (first | refine blk_drewN ?_ _ | refine blk_drew ?_ | refine blk_alloc ?_ _)); refine blk_far ?_ NB189_191.out _; (with_reducible repeat (first | refine blk_drewN ?_ _ | refine blk_drew ?_ | refine blk_alloc ?_ _)); refine blk_far ?_ NB189_191.out _; (with_reducible repeat (first | refine blk_drewN ?_ _ | refine blk_drew ?_ | refine blk_alloc ?_ _)); refine blk_far ?_ NB189_191.out _; (with_reducible repeat (first | refine blk_drewN ?_ _ | refine blk_drew ?_ | refine blk_alloc ?_ _)); refine blk_far ?_ NB189_191.out _; (with_reducible repeat (first | refine blk_drewN ?_ _ | refine blk_drew ?_ | refine blk_alloc ?_ _)); exact BK189.out⟩, ⟨by (with_reducible repeat (first | refine blk_drewN ?_ _ | refine blk_drew ?_ | refine blk_alloc ?_ _)); refine blk_far ?_ NB190_191.out _; (with_reducible repeat (first | refine blk_drewN ?_ _ | refine blk_drew ?_ | refine blk_alloc ?_ _)); refine blk_far ?_ NB190_191.out _; (with_reducible repeat (first | refine blk_drewN ?_ _ | refine blk_drew ?_ | refine blk_alloc ?_ _)); refine blk_far ?_ NB190_191.out _; (with_reducible repeat (first | refine blk_drewN ?_ _ | refine blk_drew ?_ | refine blk_alloc ?_ _)); refine blk_far ?_ NB190_191.out _; (with_reducible repeat (first | refine blk_drewN ?_ _ | refine blk_drew ?_ | refine blk_alloc ?_ _)); refine blk_far ?_ NB190_191.out _; (with_reducible repeat (first | refine blk_drewN ?_ _ | refine blk_drew ?_ | refine blk_alloc ?_ _)); refine blk_far ?_ NB190_191.out _; (with_reducible repeat (first | refine blk_drewN ?_ _ | refine blk_drew ?_ | refine blk_alloc ?_ _)); refine blk_far ?_ NB190_191.out _; (with_reducible repeat (first | refine blk_drewN ?_ _ | refine blk_drew ?_ | refine blk_alloc ?_ _)); refine blk_far ?_ NB190_191.out _; (with_reducible repeat (first | refine blk_drewN ?_ _ | refine blk_drew ?_ | refine blk_alloc ?_ _)); refine blk_far ?_ NB190_191.out _; (with_reducible repeat (first | refine blk_drewN ?_ _ | refine blk_drew ?_ | refine blk_alloc ?_ _)); refine blk_far ?_ NB190_191.out _; (with_reducible repeat (first | refine blk_drewN ?_ _ | refine blk_drew ?_ | refine blk_alloc ?_ _)); exact BK190.out⟩, ⟨by (with_reducible repeat (first | refine blk_drewN ?_ _ | refine blk_drew ?_ | refine blk_alloc ?_ _)); refine blk_put (cs := #[.int .i64 a0_0, .int .i64 0, .string (⟨#[]⟩ : ByteArray), .string (⟨#[]⟩ : ByteArray), .slice none 0 0, .int .i64 0, .slice none 0 0, .int .i64 0, .int .i64 0, .int .i64 0]) ?_ 9 _ rfl; (with_reducible repeat (first | refine blk_drewN ?_ _ | refine blk_drew ?_ | refine blk_alloc ?_ _)); refine blk_put (cs := #[.int .i64 a0_0, .int .i64 0, .string (⟨#[]⟩ : ByteArray), .string (⟨#[]⟩ : ByteArray), .slice none 0 0, .int .i64 0, .slice none 0 0, .int .i64 0, .int .i64 0, .int .i64 0]) ?_ 8 _ rfl; (with_reducible repeat (first | refine blk_drewN ?_ _ | refine blk_drew ?_ | refine blk_alloc ?_ _)); refine blk_put (cs := #[.int .i64 a0_0, .int .i64 0, .string (⟨#[]⟩ : ByteArray), .string (⟨#[]⟩ : ByteArray), .slice none 0 0, .int .i64 0, .slice none 0 0, .int .i64 0, .int .i64 0, .int .i64 0]) ?_ 7 _ rfl; (with_reducible repeat (first | refine blk_drewN ?_ _ | refine blk_drew ?_ | refine blk_alloc ?_ _)); refine blk_put (cs := #[.int .i64 a0_0, .int .i64 0, .string (⟨#[]⟩ : ByteArray), .string (⟨#[]⟩ : ByteArray), .slice none 0 0, .int .i64 0, .slice none 0 0, .int .i64 0, .int .i64 0, .int .i64 0]) ?_ 6 _ rfl; (with_reducible repeat (first | refine blk_drewN ?_ _ | refine blk_drew ?_ | refine blk_alloc ?_ _)); refine blk_put (cs := #[.int .i64 a0_0, .int .i64 0, .string (⟨#[]⟩ : ByteArray), .string (⟨#[]⟩ : ByteArray), .slice none 0 0, .int .i64 0, .slice none 0 0, .int .i64 0, .int .i64 0, .int .i64 0]) ?_ 5 _ rfl; (with_reducible repeat (first | refine blk_drewN ?_ _ | refine blk_drew ?_ | refine blk_alloc ?_ _)); refine blk_put (cs := #[.int .i64 a0_0, .int .i64 0, .string (⟨#[]⟩ : ByteArray), .string (⟨#[]⟩ : ByteArray), .slice none 0 0, .int .i64 0, .slice none 0 0, .int .i64 0, .int .i64 0, .int .i64 0]) ?_ 4 _ rfl; (with_reducible repeat (first | refine blk_drewN ?_ _ | refine blk_drew ?_ | refine blk_alloc ?_ _)); refine blk_put (cs := #[.int .i64 a0_0, .int .i64 0, .string (⟨#[]⟩ : ByteArray), .string (⟨#[]⟩ : ByteArray), .slice none 0 0, .int .i64 0, .slice none 0 0, .int .i64 0, .int .i64 0, .int .i64 0]) ?_ 3 _ rfl; (with_reducible repeat (first | refine blk_drewN ?_ _ | refine blk_drew ?_ | refine blk_alloc ?_ _)); refine blk_put (cs := #[.int .i64 a0_0, .int .i64 0, .string (⟨#[]⟩ : ByteArray), .string (⟨#[]⟩ : ByteArray), .slice none 0 0, .int .i64 0, .slice none 0 0, .int .i64 0, .int .i64 0, .int .i64 0]) ?_ 2 _ rfl; (with_reducible repeat (first | refine blk_drewN ?_ _ | refine blk_drew ?_ | refine blk_alloc ?_ _)); refine blk_put (cs := #[.int .i64 a0_0, .int .i64 0, .string (⟨#[]⟩ : ByteArray), .string (⟨#[]⟩ : ByteArray), .slice none 0 0, .int .i64 0, .slice none 0 0, .int .i64 0, .int .i64 0, .int .i64 0]) ?_ 1 _ rfl; (with_reducible repeat (first | refine blk_drewN ?_ _ | refine blk_drew ?_ | refine blk_alloc ?_ _)); refine blk_put (cs := #[.int .i64 0, .int .i64 0, .string (⟨#[]⟩ : ByteArray), .string (⟨#[]⟩ : ByteArray), .slice none 0 0, .int .i64 0, .slice none 0 0, .int .i64 0, .int .i64 0, .int .i64 0]) ?_ 0 _ rfl; (with_reducible repeat (first | refine blk_drewN ?_ _ | refine blk_drew ?_ | refine blk_alloc ?_ _)); exact BK191.out⟩, ⟨by repeat (first | (with_reducible first | exact HK.out | apply Kept.alloc | apply Kept.drewN | apply Kept.drew | refine Kept.setCell ?_ (.inr GW189.out) _ | refine Kept.setCell ?_ (.inr GW190.out) _ | refine Kept.setCell ?_ (.inr GW191.out) _) | exact HK.out)⟩, ⟨by repeat (first | (with_reducible first | exact HB.out | apply below_alloc | apply pw_below_drewN | apply below_drew1 | refine below_set ?_ GE189.out | refine below_set ?_ GE190.out | refine below_set ?_ GE191.out) | exact HB.out)⟩⟩
        case rest =>
          clear HC57
          try clear c2
          try clear c2b0
          try clear c2b1
          try clear p2
          try clear c3
          try clear c4
          try clear c6
          try clear c21
          try clear c21b0
          try clear c21b1
          try clear c26
          try clear c29
          try clear c30
          try clear c39
          try clear c39b0
          try clear c39b1
          try clear c44
          try clear c47
          try clear c48
          try clear c49
          try clear c62
          try clear c65
          try clear c66
          try clear c69
          try clear c69b0
          try clear c69b1
          try clear hcz19_0
          try clear hcz19_1
          try clear hcz19_2
          try clear hcz19_3
          try clear hcz19_4
          try clear hcz19_5
          try clear hcz19_6
          try clear hcz19_7
          try clear hcz19_8
          try clear hcz19_9
          try clear hcz20_0
          try clear hcz20_1
          try clear hcz20_2
          try clear hcz20_3
          try clear hcz20_4
          try clear hcz20_5
          try clear hcz20_6
          try clear hcz20_7
          try clear hcz20_8
          try clear hcz20_9
          try clear hcz27_0
          try clear hcz27_1
          try clear hcz27_2
          try clear hcz27_3
          try clear hcz27_4
          try clear hcz27_5
          try clear hcz27_6
          try clear hcz27_7
          try clear hcz27_8
          try clear hcz27_9
          try clear hcz31_0
          try clear hcz31_1
          try clear hcz31_2
          try clear hcz31_3
          try clear hcz31_4
          try clear hcz31_5
          try clear hcz31_6
          try clear hcz31_7
          try clear hcz31_8
          try clear hcz31_9
          try clear hcz32_0
          try clear hcz32_1
          try clear hcz32_2
          try clear hcz32_3
          try clear hcz32_4
          try clear hcz32_5
          try clear hcz32_6
          try clear hcz32_7
          try clear hcz32_8
          try clear hcz32_9
          try clear hcz37_0
          try clear hcz37_1
          try clear hcz37_2
          try clear hcz37_3
          try clear hcz37_4
          try clear hcz37_5
          try clear hcz37_6
          try clear hcz37_7
          try clear hcz37_8
          try clear hcz37_9
          try clear hcz38_0
          try clear hcz38_1
          try clear hcz38_2
          try clear hcz38_3
          try clear hcz38_4
          try clear hcz38_5
          try clear hcz38_6
          try clear hcz38_7
          try clear hcz38_8
          try clear hcz38_9
          try clear hcz45_0
          try clear hcz45_1
          try clear hcz45_2
          try clear hcz45_3
          try clear hcz45_4
          try clear hcz45_5
          try clear hcz45_6
          try clear hcz45_7
          try clear hcz45_8
          try clear hcz45_9
          try clear hcz49_0
          try clear hcz49_1
          try clear hcz49_2
          try clear hcz49_3
          try clear hcz49_4
          try clear hcz49_5
          try clear hcz49_6
          try clear hcz49_7
          try clear hcz49_8
          try clear hcz49_9
          try clear hcz50_0
          try clear hcz50_1
          try clear hcz50_2
          try clear hcz50_3
          try clear hcz50_4
          try clear hcz50_5
          try clear hcz50_6
          try clear hcz50_7
          try clear hcz50_8
          try clear hcz50_9
          try clear hcz55_0
          try clear hcz55_1
          try clear hcz55_2
          try clear hcz55_3
          try clear hcz55_4
          try clear hcz55_5
          try clear hcz55_6
          try clear hcz55_7
          try clear hcz55_8
          try clear hcz55_9
          try clear hcz56_0
          try clear hcz56_1
          try clear hcz56_2
          try clear hcz56_3
          try clear hcz56_4
          try clear hcz56_5
          try clear hcz56_6
          try clear hcz56_7
          try clear hcz56_8
          try clear hcz56_9
          try clear hcz63_0
          try clear hcz63_1
          try clear hcz63_2
          try clear hcz63_3
          try clear hcz63_4
          try clear hcz63_5
          try clear hcz63_6
          try clear hcz63_7
          try clear hcz63_8
          try clear hcz63_9
          try clear hcz67_0
          try clear hcz67_1
          try clear hcz67_2
          try clear hcz67_3
          try clear hcz67_4
          try clear hcz67_5
          try clear hcz67_6
          try clear hcz67_7
          try clear hcz67_8
          try clear hcz67_9
          try clear hcz68_0
          try clear hcz68_1
          try clear hcz68_2
          try clear hcz68_3
          try clear hcz68_4
          try clear hcz68_5
          try clear hcz68_6
          try clear hcz68_7
          try clear hcz68_8
          try clear hcz68_9
          try clear hfz19_0
          try clear hfz19_1
          try clear hfz19_2
          try clear hfz19_3
          try clear hfz19_4
          try clear hfz19_5
          try clear hfz19_6
          try clear hfz19_7
          try clear hfz19_8
          try clear hfz19_9
          try clear hfz20_0
          try clear hfz20_1
          try clear hfz20_2
          try clear hfz20_3
          try clear hfz20_4
          try clear hfz20_5
          try clear hfz20_6
          try clear hfz20_7
          try clear hfz20_8
          try clear hfz20_9
          try clear hfz27_0
          try clear hfz27_1
          try clear hfz27_2
          try clear hfz27_3
          try clear hfz27_4
          try clear hfz27_5
          try clear hfz27_6
          try clear hfz27_7
          try clear hfz27_8
          try clear hfz27_9
          try clear hfz31_0
          try clear hfz31_1
          try clear hfz31_2
          try clear hfz31_3
          try clear hfz31_4
          try clear hfz31_5
          try clear hfz31_6
          try clear hfz31_7
          try clear hfz31_8
          try clear hfz31_9
          try clear hfz32_0
          try clear hfz32_1
          try clear hfz32_2
          try clear hfz32_3
          try clear hfz32_4
          try clear hfz32_5
          try clear hfz32_6
          try clear hfz32_7
          try clear hfz32_8
          try clear hfz32_9
          try clear hfz37_0
          try clear hfz37_1
          try clear hfz37_2
          try clear hfz37_3
          try clear hfz37_4
          try clear hfz37_5
          try clear hfz37_6
          try clear hfz37_7
          try clear hfz37_8
          try clear hfz37_9
          try clear hfz38_0
          try clear hfz38_1
          try clear hfz38_2
          try clear hfz38_3
          try clear hfz38_4
          try clear hfz38_5
          try clear hfz38_6
          try clear hfz38_7
          try clear hfz38_8
          try clear hfz38_9
          try clear hfz45_0
          try clear hfz45_1
          try clear hfz45_2
          try clear hfz45_3
          try clear hfz45_4
          try clear hfz45_5
          try clear hfz45_6
          try clear hfz45_7
          try clear hfz45_8
          try clear hfz45_9
          try clear hfz49_0
          try clear hfz49_1
          try clear hfz49_2
          try clear hfz49_3
          try clear hfz49_4
          try clear hfz49_5
          try clear hfz49_6
          try clear hfz49_7
          try clear hfz49_8
          try clear hfz49_9
          try clear hfz50_0
          try clear hfz50_1
          try clear hfz50_2
          try clear hfz50_3
          try clear hfz50_4
          try clear hfz50_5
          try clear hfz50_6
          try clear hfz50_7
          try clear hfz50_8
          try clear hfz50_9
          try clear hfz55_0
          try clear hfz55_1
          try clear hfz55_2
          try clear hfz55_3
          try clear hfz55_4
          try clear hfz55_5
          try clear hfz55_6
          try clear hfz55_7
          try clear hfz55_8
          try clear hfz55_9
          try clear hfz56_0
          try clear hfz56_1
          try clear hfz56_2
          try clear hfz56_3
          try clear hfz56_4
          try clear hfz56_5
          try clear hfz56_6
          try clear hfz56_7
          try clear hfz56_8
          try clear hfz56_9
          try clear hfz63_0
          try clear hfz63_1
          try clear hfz63_2
          try clear hfz63_3
          try clear hfz63_4
          try clear hfz63_5
          try clear hfz63_6
          try clear hfz63_7
          try clear hfz63_8
          try clear hfz63_9
          try clear hfz67_0
          try clear hfz67_1
          try clear hfz67_2
          try clear hfz67_3
          try clear hfz67_4
          try clear hfz67_5
          try clear hfz67_6
          try clear hfz67_7
          try clear hfz67_8
          try clear hfz67_9
          try clear hfz68_0
          try clear hfz68_1
          try clear hfz68_2
          try clear hfz68_3
          try clear hfz68_4
          try clear hfz68_5
          try clear hfz68_6
          try clear hfz68_7
          try clear hfz68_8
          try clear hfz68_9
          obtain ⟨kq, x36_56, rfl, HA, HJ56, HO_190004, HO_190006, BK189, BK190, BK191, HK, HB⟩ := hcut
          cases kq with
          | zero => exact absurd HA.out (by simp [cachepotlaw26_bare.j0])
          | succ kj56 =>
            have H := HA.out
            clear HA
            simp only [cachepotlaw26_bare.j0] at H
            by_cases c70 : x36_56 = true
            · subst c70
              have H1 : (some (a0_0, a0_1, (⟨#[]⟩ : ByteArray), (⟨#[]⟩ : ByteArray), ([] : List ByteArray), 0, ([] : List Int), 0, 0, 0)) = some (r1, r2, r3, r4, r5, r6, r7, r8, r9, r10) := by rw [if_pos rfl] at H; exact H
              clear H
              have H := H1
              clear H1
              simp only [Option.some.injEq, Prod.mk.injEq] at H
              obtain ⟨rfl, rfl, rfl, rfl, rfl, rfl, rfl, rfl, rfl, rfl⟩ := H
              have hnb71 := NB189_190.out
              have hnc71 := NB190_189.out
              have hnb72 := NB189_191.out
              have hnc72 := NB191_189.out
              have hcz73_0 : wc.cell? ⟨gb189, 0, none⟩ = some (.int .i64 a0_0) := (blk_cell BK189.out 0).trans rfl
              have hcz73_1 : wc.cell? ⟨gb189, 1, none⟩ = some (.int .i64 a0_1) := (blk_cell BK189.out 1).trans rfl
              have hcz73_2 : wc.cell? ⟨gb189, 2, none⟩ = some (.string a0_2) := (blk_cell BK189.out 2).trans rfl
              have hcz73_3 : wc.cell? ⟨gb189, 3, none⟩ = some (.string a0_3) := (blk_cell BK189.out 3).trans rfl
              have hcz73_4 : wc.cell? ⟨gb189, 4, none⟩ = some (.slice Ao58 l0_4.length co58) := (blk_cell BK189.out 4).trans rfl
              have hcz73_5 : wc.cell? ⟨gb189, 5, none⟩ = some (.int .i64 a0_5) := (blk_cell BK189.out 5).trans rfl
              have hcz73_6 : wc.cell? ⟨gb189, 6, none⟩ = some (.slice Ao59 l0_6.length co59) := (blk_cell BK189.out 6).trans rfl
              have hcz73_7 : wc.cell? ⟨gb189, 7, none⟩ = some (.int .i64 a0_7) := (blk_cell BK189.out 7).trans rfl
              have hcz73_8 : wc.cell? ⟨gb189, 8, none⟩ = some (.int .i64 a0_8) := (blk_cell BK189.out 8).trans rfl
              have hcz73_9 : wc.cell? ⟨gb189, 9, none⟩ = some (.int .i64 a0_9) := (blk_cell BK189.out 9).trans rfl
              have hfz73_0 := blk_frozen BK189.out 0
              have hfz73_1 := blk_frozen BK189.out 1
              have hfz73_2 := blk_frozen BK189.out 2
              have hfz73_3 := blk_frozen BK189.out 3
              have hfz73_4 := blk_frozen BK189.out 4
              have hfz73_5 := blk_frozen BK189.out 5
              have hfz73_6 := blk_frozen BK189.out 6
              have hfz73_7 := blk_frozen BK189.out 7
              have hfz73_8 := blk_frozen BK189.out 8
              have hfz73_9 := blk_frozen BK189.out 9
              have hnb74 := NB191_190.out
              have hnc74 := NB190_191.out
              have hcz75_0 : wc.cell? ⟨gb191, 0, none⟩ = some (.int .i64 a0_0) := (blk_cell BK191.out 0).trans rfl
              have hcz75_1 : wc.cell? ⟨gb191, 1, none⟩ = some (.int .i64 0) := (blk_cell BK191.out 1).trans rfl
              have hcz75_2 : wc.cell? ⟨gb191, 2, none⟩ = some (.string (⟨#[]⟩ : ByteArray)) := (blk_cell BK191.out 2).trans rfl
              have hcz75_3 : wc.cell? ⟨gb191, 3, none⟩ = some (.string (⟨#[]⟩ : ByteArray)) := (blk_cell BK191.out 3).trans rfl
              have hcz75_4 : wc.cell? ⟨gb191, 4, none⟩ = some (.slice none 0 0) := (blk_cell BK191.out 4).trans rfl
              have hcz75_5 : wc.cell? ⟨gb191, 5, none⟩ = some (.int .i64 0) := (blk_cell BK191.out 5).trans rfl
              have hcz75_6 : wc.cell? ⟨gb191, 6, none⟩ = some (.slice none 0 0) := (blk_cell BK191.out 6).trans rfl
              have hcz75_7 : wc.cell? ⟨gb191, 7, none⟩ = some (.int .i64 0) := (blk_cell BK191.out 7).trans rfl
              have hcz75_8 : wc.cell? ⟨gb191, 8, none⟩ = some (.int .i64 0) := (blk_cell BK191.out 8).trans rfl
              have hcz75_9 : wc.cell? ⟨gb191, 9, none⟩ = some (.int .i64 0) := (blk_cell BK191.out 9).trans rfl
              have hfz75_0 := blk_frozen BK191.out 0
              have hfz75_1 := blk_frozen BK191.out 1
              have hfz75_2 := blk_frozen BK191.out 2
              have hfz75_3 := blk_frozen BK191.out 3
              have hfz75_4 := blk_frozen BK191.out 4
              have hfz75_5 := blk_frozen BK191.out 5
              have hfz75_6 := blk_frozen BK191.out 6
              have hfz75_7 := blk_frozen BK191.out 7
              have hfz75_8 := blk_frozen BK191.out 8
              have hfz75_9 := blk_frozen BK191.out 9
              have hcz76_0 : wc.cell? ⟨gb190, 0, none⟩ = some (.int .i64 0) := (blk_cell BK190.out 0).trans rfl
              have hcz76_1 : wc.cell? ⟨gb190, 1, none⟩ = some (.int .i64 0) := (blk_cell BK190.out 1).trans rfl
              have hcz76_2 : wc.cell? ⟨gb190, 2, none⟩ = some (.string (⟨#[]⟩ : ByteArray)) := (blk_cell BK190.out 2).trans rfl
              have hcz76_3 : wc.cell? ⟨gb190, 3, none⟩ = some (.string (⟨#[]⟩ : ByteArray)) := (blk_cell BK190.out 3).trans rfl
              have hcz76_4 : wc.cell? ⟨gb190, 4, none⟩ = some (.slice none 0 0) := (blk_cell BK190.out 4).trans rfl
              have hcz76_5 : wc.cell? ⟨gb190, 5, none⟩ = some (.int .i64 0) := (blk_cell BK190.out 5).trans rfl
              have hcz76_6 : wc.cell? ⟨gb190, 6, none⟩ = some (.slice none 0 0) := (blk_cell BK190.out 6).trans rfl
              have hcz76_7 : wc.cell? ⟨gb190, 7, none⟩ = some (.int .i64 0) := (blk_cell BK190.out 7).trans rfl
              have hcz76_8 : wc.cell? ⟨gb190, 8, none⟩ = some (.int .i64 0) := (blk_cell BK190.out 8).trans rfl
              have hcz76_9 : wc.cell? ⟨gb190, 9, none⟩ = some (.int .i64 0) := (blk_cell BK190.out 9).trans rfl
              have hfz76_0 := blk_frozen BK190.out 0
              have hfz76_1 := blk_frozen BK190.out 1
              have hfz76_2 := blk_frozen BK190.out 2
              have hfz76_3 := blk_frozen BK190.out 3
              have hfz76_4 := blk_frozen BK190.out 4
              have hfz76_5 := blk_frozen BK190.out 5
              have hfz76_6 := blk_frozen BK190.out 6
              have hfz76_7 := blk_frozen BK190.out 7
              have hfz76_8 := blk_frozen BK190.out 8
              have hfz76_9 := blk_frozen BK190.out 9
              go_wp2
              refine bodyPost_ret (results_cell_row rfl _ _ gb190 61 #[.int .i64 a0_0, .int .i64 a0_1, .string (⟨#[]⟩ : ByteArray), .string (⟨#[]⟩ : ByteArray), .slice none 0 0, .int .i64 0, .slice none 0 0, .int .i64 0, .int .i64 0, .int .i64 0] (0, 0) _ rfl (by (with_reducible repeat (first | refine blk_drewN ?_ _ | refine blk_drew ?_ | refine blk_alloc ?_ _)); refine blk_put (cs := #[.int .i64 a0_0, .int .i64 a0_1, .string (⟨#[]⟩ : ByteArray), .string (⟨#[]⟩ : ByteArray), .slice none 0 0, .int .i64 0, .slice none 0 0, .int .i64 0, .int .i64 0, .int .i64 0]) ?_ 9 _ rfl; (with_reducible repeat (first | refine blk_drewN ?_ _ | refine blk_drew ?_ | refine blk_alloc ?_ _)); refine blk_put (cs := #[.int .i64 a0_0, .int .i64 a0_1, .string (⟨#[]⟩ : ByteArray), .string (⟨#[]⟩ : ByteArray), .slice none 0 0, .int .i64 0, .slice none 0 0, .int .i64 0, .int .i64 0, .int .i64 0]) ?_ 8 _ rfl; (with_reducible repeat (first | refine blk_drewN ?_ _ | refine blk_drew ?_ | refine blk_alloc ?_ _)); refine blk_put (cs := #[.int .i64 a0_0, .int .i64 a0_1, .string (⟨#[]⟩ : ByteArray), .string (⟨#[]⟩ : ByteArray), .slice none 0 0, .int .i64 0, .slice none 0 0, .int .i64 0, .int .i64 0, .int .i64 0]) ?_ 7 _ rfl; (with_reducible repeat (first | refine blk_drewN ?_ _ | refine blk_drew ?_ | refine blk_alloc ?_ _)); refine blk_put (cs := #[.int .i64 a0_0, .int .i64 a0_1, .string (⟨#[]⟩ : ByteArray), .string (⟨#[]⟩ : ByteArray), .slice none 0 0, .int .i64 0, .slice none 0 0, .int .i64 0, .int .i64 0, .int .i64 0]) ?_ 6 _ rfl; (with_reducible repeat (first | refine blk_drewN ?_ _ | refine blk_drew ?_ | refine blk_alloc ?_ _)); refine blk_put (cs := #[.int .i64 a0_0, .int .i64 a0_1, .string (⟨#[]⟩ : ByteArray), .string (⟨#[]⟩ : ByteArray), .slice none 0 0, .int .i64 0, .slice none 0 0, .int .i64 0, .int .i64 0, .int .i64 0]) ?_ 5 _ rfl; (with_reducible repeat (first | refine blk_drewN ?_ _ | refine blk_drew ?_ | refine blk_alloc ?_ _)); refine blk_put (cs := #[.int .i64 a0_0, .int .i64 a0_1, .string (⟨#[]⟩ : ByteArray), .string (⟨#[]⟩ : ByteArray), .slice none 0 0, .int .i64 0, .slice none 0 0, .int .i64 0, .int .i64 0, .int .i64 0]) ?_ 4 _ rfl; (with_reducible repeat (first | refine blk_drewN ?_ _ | refine blk_drew ?_ | refine blk_alloc ?_ _)); refine blk_put (cs := #[.int .i64 a0_0, .int .i64 a0_1, .string (⟨#[]⟩ : ByteArray), .string (⟨#[]⟩ : ByteArray), .slice none 0 0, .int .i64 0, .slice none 0 0, .int .i64 0, .int .i64 0, .int .i64 0]) ?_ 3 _ rfl; (with_reducible repeat (first | refine blk_drewN ?_ _ | refine blk_drew ?_ | refine blk_alloc ?_ _)); refine blk_put (cs := #[.int .i64 a0_0, .int .i64 a0_1, .string (⟨#[]⟩ : ByteArray), .string (⟨#[]⟩ : ByteArray), .slice none 0 0, .int .i64 0, .slice none 0 0, .int .i64 0, .int .i64 0, .int .i64 0]) ?_ 2 _ rfl; (with_reducible repeat (first | refine blk_drewN ?_ _ | refine blk_drew ?_ | refine blk_alloc ?_ _)); refine blk_put (cs := #[.int .i64 a0_0, .int .i64 0, .string (⟨#[]⟩ : ByteArray), .string (⟨#[]⟩ : ByteArray), .slice none 0 0, .int .i64 0, .slice none 0 0, .int .i64 0, .int .i64 0, .int .i64 0]) ?_ 1 _ rfl; (with_reducible repeat (first | refine blk_drewN ?_ _ | refine blk_drew ?_ | refine blk_alloc ?_ _)); refine blk_put (cs := #[.int .i64 0, .int .i64 0, .string (⟨#[]⟩ : ByteArray), .string (⟨#[]⟩ : ByteArray), .slice none 0 0, .int .i64 0, .slice none 0 0, .int .i64 0, .int .i64 0, .int .i64 0]) ?_ 0 _ rfl; (with_reducible repeat (first | refine blk_drewN ?_ _ | refine blk_drew ?_ | refine blk_alloc ?_ _)); refine blk_far ?_ NB190_191.out _; (with_reducible repeat (first | refine blk_drewN ?_ _ | refine blk_drew ?_ | refine blk_alloc ?_ _)); exact BK190.out) Tryd.underlying61 rfl (by kernel_rfl)) rfl ?_
              exact ⟨_, _, by first | rfl | (simp [errW_none, errW_some] <;> rfl) | (simp [*, errW_none, errW_some] <;> rfl), by first | exact Kd.R_nil _ _ _ _ _ | exact Kd.N_nil _ _ _ _ _ | exact Kd.V_nil _ _ _ _ _ | exact Kd.Q_nil _ _ _ _ _ | exact Kd.S_nil _ _ _ _ _, by first | exact Kd.R_nil _ _ _ _ _ | exact Kd.N_nil _ _ _ _ _ | exact Kd.V_nil _ _ _ _ _ | exact Kd.Q_nil _ _ _ _ _ | exact Kd.S_nil _ _ _ _ _, by repeat (first | (with_reducible first | exact HB.out | apply below_alloc | apply pw_below_drewN | apply below_drew1 | refine below_set ?_ GE189.out | refine below_set ?_ GE190.out | refine below_set ?_ GE191.out) | exact HB.out), by repeat (first | (with_reducible first | exact HK.out | apply Kept.alloc | apply Kept.drewN | apply Kept.drew | refine Kept.setCell ?_ (.inr GW189.out) _ | refine Kept.setCell ?_ (.inr GW190.out) _ | refine Kept.setCell ?_ (.inr GW191.out) _) | exact HK.out)⟩
            · replace c70 := Bool.eq_false_iff.mpr c70
              subst c70
              have H1 : (if a0_0 = 8 then (cachepotlaw26_bare.j1 kj56 a0_0 (a0_0 == 8) a0_0 a0_1 a0_2 a0_3 l0_4 a0_5 l0_6 a0_7 a0_8 a0_9 a0_0 0 (⟨#[]⟩ : ByteArray) (⟨#[]⟩ : ByteArray) 0 0 0 0) else (cachepotlaw26_bare.j1 kj56 a0_0 (a0_0 == 9) a0_0 a0_1 a0_2 a0_3 l0_4 a0_5 l0_6 a0_7 a0_8 a0_9 a0_0 0 (⟨#[]⟩ : ByteArray) (⟨#[]⟩ : ByteArray) 0 0 0 0)) = some (r1, r2, r3, r4, r5, r6, r7, r8, r9, r10) := by rw [if_neg (show ¬ (false = true) by decide)] at H; exact H
              clear H
              have H := H1
              clear H1
              have HC77 := Aside0.mk H
              clear H
              go_upto_if 42 with (fail)
              go_cut [42] (fun v42 wc => ∃ (kq : Nat) (x42_76 : Bool), v42 = .bool x42_76 ∧ Aside0 (cachepotlaw26_bare.j1 kq a0_0 x42_76 a0_0 a0_1 a0_2 a0_3 l0_4 a0_5 l0_6 a0_7 a0_8 a0_9 a0_0 0 (⟨#[]⟩ : ByteArray) (⟨#[]⟩ : ByteArray) 0 0 0 0 = some (r1, r2, r3, r4, r5, r6, r7, r8, r9, r10)) ∧ Aside0 (kq ≤ kj56) ∧ Aside0 (Kd.R Kd.string 9 wc w0.heap.size (fun k_ => ((P0_4_ k_ ∨ P0_6_ k_) ∨ w.heap.size ≤ k_)) (.slice Ao58 l0_4.length co58) l0_4) ∧ Aside0 (Kd.R (Kd.int .i64) 3 wc w0.heap.size (fun k_ => ((P0_4_ k_ ∨ P0_6_ k_) ∨ w.heap.size ≤ k_)) (.slice Ao59 l0_6.length co59) l0_6) ∧ Aside0 (wc.heap[gb189]? = some (.cells #[.int .i64 a0_0, .int .i64 a0_1, .string a0_2, .string a0_3, (.slice Ao58 l0_4.length co58), .int .i64 a0_5, (.slice Ao59 l0_6.length co59), .int .i64 a0_7, .int .i64 a0_8, .int .i64 a0_9] 61 (0, 0))) ∧ Aside0 (wc.heap[gb190]? = some (.cells #[.int .i64 0, .int .i64 0, .string (⟨#[]⟩ : ByteArray), .string (⟨#[]⟩ : ByteArray), (.slice none 0 0), .int .i64 0, (.slice none 0 0), .int .i64 0, .int .i64 0, .int .i64 0] 61 (0, 0))) ∧ Aside0 (wc.heap[gb191]? = some (.cells #[.int .i64 a0_0, .int .i64 0, .string (⟨#[]⟩ : ByteArray), .string (⟨#[]⟩ : ByteArray), (.slice none 0 0), .int .i64 0, (.slice none 0 0), .int .i64 0, .int .i64 0, .int .i64 0] 61 (0, 0))) ∧ Aside0 (Kept w wc (fun k_ => P0_4_ k_ ∨ P0_6_ k_)) ∧ Aside0 (Below w0.heap.size w0 wc))
              case first =>
                have H := HC77.out
                clear HC77
                by_cases c78 : a0_0 = 8
                · rw [if_pos c78] at H
                  have c78b0 : (a0_0 == 8) = true := beq_iff_eq.mpr c78
                  have c78b1 : (a0_0 != 8) = false := bne_eq_false_iff_eq.mpr c78
                  clear c78
                  (first | rw [c78b0] | (simp only [i64_w, i32_w]; rw [c78b0]) | skip)
                  have H' := Aside0.mk H
                  clear H
                  go_wp2
                  go_meet
                  case rel => exact ⟨_, ((a0_0 == 8)), (by first | rfl | (simp; done) | (simp [*]; done)), H', ⟨by have := HJ56.out; first | omega | exact Nat.le_refl _⟩, ⟨by (with_reducible repeat (first | apply Kd.R_alloc | apply Kd.R_drewN | apply Kd.R_drew)); exact HO_190004.out⟩, ⟨by (with_reducible repeat (first | apply Kd.R_alloc | apply Kd.R_drewN | apply Kd.R_drew)); exact HO_190006.out⟩, ⟨by (with_reducible repeat (first | refine blk_drewN ?_ _ | refine blk_drew ?_ | refine blk_alloc ?_ _)); exact BK189.out⟩, ⟨by (with_reducible repeat (first | refine blk_drewN ?_ _ | refine blk_drew ?_ | refine blk_alloc ?_ _)); exact BK190.out⟩, ⟨by (with_reducible repeat (first | refine blk_drewN ?_ _ | refine blk_drew ?_ | refine blk_alloc ?_ _)); exact BK191.out⟩, ⟨by repeat (first | (with_reducible first | exact HK.out | apply Kept.alloc | apply Kept.drewN | apply Kept.drew | refine Kept.setCell ?_ (.inr GW189.out) _ | refine Kept.setCell ?_ (.inr GW190.out) _ | refine Kept.setCell ?_ (.inr GW191.out) _) | exact HK.out)⟩, ⟨by repeat (first | (with_reducible first | exact HB.out | apply below_alloc | apply pw_below_drewN | apply below_drew1 | refine below_set ?_ GE189.out | refine below_set ?_ GE190.out | refine below_set ?_ GE191.out) | exact HB.out)⟩⟩
                · rw [if_neg c78] at H
                  have c78b0 : (a0_0 == 8) = false := beq_eq_false_iff_ne.mpr c78
                  have c78b1 : (a0_0 != 8) = true := bne_iff_ne.mpr c78
                  (first | rw [c78b0] | (simp only [i64_w, i32_w]; rw [c78b0]) | skip)
                  have H' := Aside0.mk H
                  clear H
                  go_wp2
                  go_meet
                  case rel => exact ⟨_, ((a0_0 == 9)), (by first | rfl | (simp; done) | (simp [*]; done)), H', ⟨by have := HJ56.out; first | omega | exact Nat.le_refl _⟩, ⟨by (with_reducible repeat (first | apply Kd.R_alloc | apply Kd.R_drewN | apply Kd.R_drew)); exact HO_190004.out⟩, ⟨by (with_reducible repeat (first | apply Kd.R_alloc | apply Kd.R_drewN | apply Kd.R_drew)); exact HO_190006.out⟩, ⟨by (with_reducible repeat (first | refine blk_drewN ?_ _ | refine blk_drew ?_ | refine blk_alloc ?_ _)); exact BK189.out⟩, ⟨by (with_reducible repeat (first | refine blk_drewN ?_ _ | refine blk_drew ?_ | refine blk_alloc ?_ _)); exact BK190.out⟩, ⟨by (with_reducible repeat (first | refine blk_drewN ?_ _ | refine blk_drew ?_ | refine blk_alloc ?_ _)); exact BK191.out⟩, ⟨by repeat (first | (with_reducible first | exact HK.out | apply Kept.alloc | apply Kept.drewN | apply Kept.drew | refine Kept.setCell ?_ (.inr GW189.out) _ | refine Kept.setCell ?_ (.inr GW190.out) _ | refine Kept.setCell ?_ (.inr GW191.out) _) | exact HK.out)⟩, ⟨by repeat (first | (with_reducible first | exact HB.out | apply below_alloc | apply pw_below_drewN | apply below_drew1 | refine below_set ?_ GE189.out | refine below_set ?_ GE190.out | refine below_set ?_ GE191.out) | exact HB.out)⟩⟩
              case rest =>
                clear HC77
                try clear c2
                try clear c2b0
                try clear c2b1
                try clear p2
                try clear c3
                try clear c4
                try clear c6
                try clear c7
                try clear c21
                try clear c21b0
                try clear c21b1
                try clear c26
                try clear c29
                try clear c30
                try clear c39
                try clear c39b0
                try clear c39b1
                try clear c44
                try clear c47
                try clear c48
                try clear c49
                try clear c62
                try clear c65
                try clear c66
                try clear c69
                try clear c69b0
                try clear c69b1
                try clear c70
                try clear c71
                try clear c72
                try clear c74
                try clear c78
                try clear c78b0
                try clear c78b1
                try clear hcz19_0
                try clear hcz19_1
                try clear hcz19_2
                try clear hcz19_3
                try clear hcz19_4
                try clear hcz19_5
                try clear hcz19_6
                try clear hcz19_7
                try clear hcz19_8
                try clear hcz19_9
                try clear hcz20_0
                try clear hcz20_1
                try clear hcz20_2
                try clear hcz20_3
                try clear hcz20_4
                try clear hcz20_5
                try clear hcz20_6
                try clear hcz20_7
                try clear hcz20_8
                try clear hcz20_9
                try clear hcz27_0
                try clear hcz27_1
                try clear hcz27_2
                try clear hcz27_3
                try clear hcz27_4
                try clear hcz27_5
                try clear hcz27_6
                try clear hcz27_7
                try clear hcz27_8
                try clear hcz27_9
                try clear hcz31_0
                try clear hcz31_1
                try clear hcz31_2
                try clear hcz31_3
                try clear hcz31_4
                try clear hcz31_5
                try clear hcz31_6
                try clear hcz31_7
                try clear hcz31_8
                try clear hcz31_9
                try clear hcz32_0
                try clear hcz32_1
                try clear hcz32_2
                try clear hcz32_3
                try clear hcz32_4
                try clear hcz32_5
                try clear hcz32_6
                try clear hcz32_7
                try clear hcz32_8
                try clear hcz32_9
                try clear hcz37_0
                try clear hcz37_1
                try clear hcz37_2
                try clear hcz37_3
                try clear hcz37_4
                try clear hcz37_5
                try clear hcz37_6
                try clear hcz37_7
                try clear hcz37_8
                try clear hcz37_9
                try clear hcz38_0
                try clear hcz38_1
                try clear hcz38_2
                try clear hcz38_3
                try clear hcz38_4
                try clear hcz38_5
                try clear hcz38_6
                try clear hcz38_7
                try clear hcz38_8
                try clear hcz38_9
                try clear hcz45_0
                try clear hcz45_1
                try clear hcz45_2
                try clear hcz45_3
                try clear hcz45_4
                try clear hcz45_5
                try clear hcz45_6
                try clear hcz45_7
                try clear hcz45_8
                try clear hcz45_9
                try clear hcz49_0
                try clear hcz49_1
                try clear hcz49_2
                try clear hcz49_3
                try clear hcz49_4
                try clear hcz49_5
                try clear hcz49_6
                try clear hcz49_7
                try clear hcz49_8
                try clear hcz49_9
                try clear hcz50_0
                try clear hcz50_1
                try clear hcz50_2
                try clear hcz50_3
                try clear hcz50_4
                try clear hcz50_5
                try clear hcz50_6
                try clear hcz50_7
                try clear hcz50_8
                try clear hcz50_9
                try clear hcz55_0
                try clear hcz55_1
                try clear hcz55_2
                try clear hcz55_3
                try clear hcz55_4
                try clear hcz55_5
                try clear hcz55_6
                try clear hcz55_7
                try clear hcz55_8
                try clear hcz55_9
                try clear hcz56_0
                try clear hcz56_1
                try clear hcz56_2
                try clear hcz56_3
                try clear hcz56_4
                try clear hcz56_5
                try clear hcz56_6
                try clear hcz56_7
                try clear hcz56_8
                try clear hcz56_9
                try clear hcz63_0
                try clear hcz63_1
                try clear hcz63_2
                try clear hcz63_3
                try clear hcz63_4
                try clear hcz63_5
                try clear hcz63_6
                try clear hcz63_7
                try clear hcz63_8
                try clear hcz63_9
                try clear hcz67_0
                try clear hcz67_1
                try clear hcz67_2
                try clear hcz67_3
                try clear hcz67_4
                try clear hcz67_5
                try clear hcz67_6
                try clear hcz67_7
                try clear hcz67_8
                try clear hcz67_9
                try clear hcz68_0
                try clear hcz68_1
                try clear hcz68_2
                try clear hcz68_3
                try clear hcz68_4
                try clear hcz68_5
                try clear hcz68_6
                try clear hcz68_7
                try clear hcz68_8
                try clear hcz68_9
                try clear hcz73_0
                try clear hcz73_1
                try clear hcz73_2
                try clear hcz73_3
                try clear hcz73_4
                try clear hcz73_5
                try clear hcz73_6
                try clear hcz73_7
                try clear hcz73_8
                try clear hcz73_9
                try clear hcz75_0
                try clear hcz75_1
                try clear hcz75_2
                try clear hcz75_3
                try clear hcz75_4
                try clear hcz75_5
                try clear hcz75_6
                try clear hcz75_7
                try clear hcz75_8
                try clear hcz75_9
                try clear hcz76_0
                try clear hcz76_1
                try clear hcz76_2
                try clear hcz76_3
                try clear hcz76_4
                try clear hcz76_5
                try clear hcz76_6
                try clear hcz76_7
                try clear hcz76_8
                try clear hcz76_9
                try clear hfz19_0
                try clear hfz19_1
                try clear hfz19_2
                try clear hfz19_3
                try clear hfz19_4
                try clear hfz19_5
                try clear hfz19_6
                try clear hfz19_7
                try clear hfz19_8
                try clear hfz19_9
                try clear hfz20_0
                try clear hfz20_1
                try clear hfz20_2
                try clear hfz20_3
                try clear hfz20_4
                try clear hfz20_5
                try clear hfz20_6
                try clear hfz20_7
                try clear hfz20_8
                try clear hfz20_9
                try clear hfz27_0
                try clear hfz27_1
                try clear hfz27_2
                try clear hfz27_3
                try clear hfz27_4
                try clear hfz27_5
                try clear hfz27_6
                try clear hfz27_7
                try clear hfz27_8
                try clear hfz27_9
                try clear hfz31_0
                try clear hfz31_1
                try clear hfz31_2
                try clear hfz31_3
                try clear hfz31_4
                try clear hfz31_5
                try clear hfz31_6
                try clear hfz31_7
                try clear hfz31_8
                try clear hfz31_9
                try clear hfz32_0
                try clear hfz32_1
                try clear hfz32_2
                try clear hfz32_3
                try clear hfz32_4
                try clear hfz32_5
                try clear hfz32_6
                try clear hfz32_7
                try clear hfz32_8
                try clear hfz32_9
                try clear hfz37_0
                try clear hfz37_1
                try clear hfz37_2
                try clear hfz37_3
                try clear hfz37_4
                try clear hfz37_5
                try clear hfz37_6
                try clear hfz37_7
                try clear hfz37_8
                try clear hfz37_9
                try clear hfz38_0
                try clear hfz38_1
                try clear hfz38_2
                try clear hfz38_3
                try clear hfz38_4
                try clear hfz38_5
                try clear hfz38_6
                try clear hfz38_7
                try clear hfz38_8
                try clear hfz38_9
                try clear hfz45_0
                try clear hfz45_1
                try clear hfz45_2
                try clear hfz45_3
                try clear hfz45_4
                try clear hfz45_5
                try clear hfz45_6
                try clear hfz45_7
                try clear hfz45_8
                try clear hfz45_9
                try clear hfz49_0
                try clear hfz49_1
                try clear hfz49_2
                try clear hfz49_3
                try clear hfz49_4
                try clear hfz49_5
                try clear hfz49_6
                try clear hfz49_7
                try clear hfz49_8
                try clear hfz49_9
                try clear hfz50_0
                try clear hfz50_1
                try clear hfz50_2
                try clear hfz50_3
                try clear hfz50_4
                try clear hfz50_5
                try clear hfz50_6
                try clear hfz50_7
                try clear hfz50_8
                try clear hfz50_9
                try clear hfz55_0
                try clear hfz55_1
                try clear hfz55_2
                try clear hfz55_3
                try clear hfz55_4
                try clear hfz55_5
                try clear hfz55_6
                try clear hfz55_7
                try clear hfz55_8
                try clear hfz55_9
                try clear hfz56_0
                try clear hfz56_1
                try clear hfz56_2
                try clear hfz56_3
                try clear hfz56_4
                try clear hfz56_5
                try clear hfz56_6
                try clear hfz56_7
                try clear hfz56_8
                try clear hfz56_9
                try clear hfz63_0
                try clear hfz63_1
                try clear hfz63_2
                try clear hfz63_3
                try clear hfz63_4
                try clear hfz63_5
                try clear hfz63_6
                try clear hfz63_7
                try clear hfz63_8
                try clear hfz63_9
                try clear hfz67_0
                try clear hfz67_1
                try clear hfz67_2
                try clear hfz67_3
                try clear hfz67_4
                try clear hfz67_5
                try clear hfz67_6
                try clear hfz67_7
                try clear hfz67_8
                try clear hfz67_9
                try clear hfz68_0
                try clear hfz68_1
                try clear hfz68_2
                try clear hfz68_3
                try clear hfz68_4
                try clear hfz68_5
                try clear hfz68_6
                try clear hfz68_7
                try clear hfz68_8
                try clear hfz68_9
                try clear hfz73_0
                try clear hfz73_1
                try clear hfz73_2
                try clear hfz73_3
                try clear hfz73_4
                try clear hfz73_5
                try clear hfz73_6
                try clear hfz73_7
                try clear hfz73_8
                try clear hfz73_9
                try clear hfz75_0
                try clear hfz75_1
                try clear hfz75_2
                try clear hfz75_3
                try clear hfz75_4
                try clear hfz75_5
                try clear hfz75_6
                try clear hfz75_7
                try clear hfz75_8
                try clear hfz75_9
                try clear hfz76_0
                try clear hfz76_1
                try clear hfz76_2
                try clear hfz76_3
                try clear hfz76_4
                try clear hfz76_5
                try clear hfz76_6
                try clear hfz76_7
                try clear hfz76_8
                try clear hfz76_9
                try clear p2
                obtain ⟨kq, x42_76, rfl, HA, HJ76, HO_190004, HO_190006, BK189, BK190, BK191, HK, HB⟩ := hcut
                cases kq with
                | zero => exact absurd HA.out (by simp [cachepotlaw26_bare.j1])
                | succ kj76 =>
                  have H := HA.out
                  clear HA
                  simp only [cachepotlaw26_bare.j1] at H
                  by_cases c79 : x42_76 = true
                  · subst c79
                    have H1 : (some (a0_0, 0, a0_2, (⟨#[]⟩ : ByteArray), ([] : List ByteArray), 0, ([] : List Int), 0, 0, 0)) = some (r1, r2, r3, r4, r5, r6, r7, r8, r9, r10) := by rw [if_pos rfl] at H; exact H
                    clear H
                    have H := H1
                    clear H1
                    simp only [Option.some.injEq, Prod.mk.injEq] at H
                    obtain ⟨rfl, rfl, rfl, rfl, rfl, rfl, rfl, rfl, rfl, rfl⟩ := H
                    have hnb80 := NB189_190.out
                    have hnc80 := NB190_189.out
                    have hnb81 := NB189_191.out
                    have hnc81 := NB191_189.out
                    have hcz82_0 : wc.cell? ⟨gb189, 0, none⟩ = some (.int .i64 a0_0) := (blk_cell BK189.out 0).trans rfl
                    have hcz82_1 : wc.cell? ⟨gb189, 1, none⟩ = some (.int .i64 a0_1) := (blk_cell BK189.out 1).trans rfl
                    have hcz82_2 : wc.cell? ⟨gb189, 2, none⟩ = some (.string a0_2) := (blk_cell BK189.out 2).trans rfl
                    have hcz82_3 : wc.cell? ⟨gb189, 3, none⟩ = some (.string a0_3) := (blk_cell BK189.out 3).trans rfl
                    have hcz82_4 : wc.cell? ⟨gb189, 4, none⟩ = some (.slice Ao58 l0_4.length co58) := (blk_cell BK189.out 4).trans rfl
                    have hcz82_5 : wc.cell? ⟨gb189, 5, none⟩ = some (.int .i64 a0_5) := (blk_cell BK189.out 5).trans rfl
                    have hcz82_6 : wc.cell? ⟨gb189, 6, none⟩ = some (.slice Ao59 l0_6.length co59) := (blk_cell BK189.out 6).trans rfl
                    have hcz82_7 : wc.cell? ⟨gb189, 7, none⟩ = some (.int .i64 a0_7) := (blk_cell BK189.out 7).trans rfl
                    have hcz82_8 : wc.cell? ⟨gb189, 8, none⟩ = some (.int .i64 a0_8) := (blk_cell BK189.out 8).trans rfl
                    have hcz82_9 : wc.cell? ⟨gb189, 9, none⟩ = some (.int .i64 a0_9) := (blk_cell BK189.out 9).trans rfl
                    have hfz82_0 := blk_frozen BK189.out 0
                    have hfz82_1 := blk_frozen BK189.out 1
                    have hfz82_2 := blk_frozen BK189.out 2
                    have hfz82_3 := blk_frozen BK189.out 3
                    have hfz82_4 := blk_frozen BK189.out 4
                    have hfz82_5 := blk_frozen BK189.out 5
                    have hfz82_6 := blk_frozen BK189.out 6
                    have hfz82_7 := blk_frozen BK189.out 7
                    have hfz82_8 := blk_frozen BK189.out 8
                    have hfz82_9 := blk_frozen BK189.out 9
                    have hnb83 := NB191_190.out
                    have hnc83 := NB190_191.out
                    have hcz84_0 : wc.cell? ⟨gb191, 0, none⟩ = some (.int .i64 a0_0) := (blk_cell BK191.out 0).trans rfl
                    have hcz84_1 : wc.cell? ⟨gb191, 1, none⟩ = some (.int .i64 0) := (blk_cell BK191.out 1).trans rfl
                    have hcz84_2 : wc.cell? ⟨gb191, 2, none⟩ = some (.string (⟨#[]⟩ : ByteArray)) := (blk_cell BK191.out 2).trans rfl
                    have hcz84_3 : wc.cell? ⟨gb191, 3, none⟩ = some (.string (⟨#[]⟩ : ByteArray)) := (blk_cell BK191.out 3).trans rfl
                    have hcz84_4 : wc.cell? ⟨gb191, 4, none⟩ = some (.slice none 0 0) := (blk_cell BK191.out 4).trans rfl
                    have hcz84_5 : wc.cell? ⟨gb191, 5, none⟩ = some (.int .i64 0) := (blk_cell BK191.out 5).trans rfl
                    have hcz84_6 : wc.cell? ⟨gb191, 6, none⟩ = some (.slice none 0 0) := (blk_cell BK191.out 6).trans rfl
                    have hcz84_7 : wc.cell? ⟨gb191, 7, none⟩ = some (.int .i64 0) := (blk_cell BK191.out 7).trans rfl
                    have hcz84_8 : wc.cell? ⟨gb191, 8, none⟩ = some (.int .i64 0) := (blk_cell BK191.out 8).trans rfl
                    have hcz84_9 : wc.cell? ⟨gb191, 9, none⟩ = some (.int .i64 0) := (blk_cell BK191.out 9).trans rfl
                    have hfz84_0 := blk_frozen BK191.out 0
                    have hfz84_1 := blk_frozen BK191.out 1
                    have hfz84_2 := blk_frozen BK191.out 2
                    have hfz84_3 := blk_frozen BK191.out 3
                    have hfz84_4 := blk_frozen BK191.out 4
                    have hfz84_5 := blk_frozen BK191.out 5
                    have hfz84_6 := blk_frozen BK191.out 6
                    have hfz84_7 := blk_frozen BK191.out 7
                    have hfz84_8 := blk_frozen BK191.out 8
                    have hfz84_9 := blk_frozen BK191.out 9
                    have hcz85_0 : wc.cell? ⟨gb190, 0, none⟩ = some (.int .i64 0) := (blk_cell BK190.out 0).trans rfl
                    have hcz85_1 : wc.cell? ⟨gb190, 1, none⟩ = some (.int .i64 0) := (blk_cell BK190.out 1).trans rfl
                    have hcz85_2 : wc.cell? ⟨gb190, 2, none⟩ = some (.string (⟨#[]⟩ : ByteArray)) := (blk_cell BK190.out 2).trans rfl
                    have hcz85_3 : wc.cell? ⟨gb190, 3, none⟩ = some (.string (⟨#[]⟩ : ByteArray)) := (blk_cell BK190.out 3).trans rfl
                    have hcz85_4 : wc.cell? ⟨gb190, 4, none⟩ = some (.slice none 0 0) := (blk_cell BK190.out 4).trans rfl
                    have hcz85_5 : wc.cell? ⟨gb190, 5, none⟩ = some (.int .i64 0) := (blk_cell BK190.out 5).trans rfl
                    have hcz85_6 : wc.cell? ⟨gb190, 6, none⟩ = some (.slice none 0 0) := (blk_cell BK190.out 6).trans rfl
                    have hcz85_7 : wc.cell? ⟨gb190, 7, none⟩ = some (.int .i64 0) := (blk_cell BK190.out 7).trans rfl
                    have hcz85_8 : wc.cell? ⟨gb190, 8, none⟩ = some (.int .i64 0) := (blk_cell BK190.out 8).trans rfl
                    have hcz85_9 : wc.cell? ⟨gb190, 9, none⟩ = some (.int .i64 0) := (blk_cell BK190.out 9).trans rfl
                    have hfz85_0 := blk_frozen BK190.out 0
                    have hfz85_1 := blk_frozen BK190.out 1
                    have hfz85_2 := blk_frozen BK190.out 2
                    have hfz85_3 := blk_frozen BK190.out 3
                    have hfz85_4 := blk_frozen BK190.out 4
                    have hfz85_5 := blk_frozen BK190.out 5
                    have hfz85_6 := blk_frozen BK190.out 6
                    have hfz85_7 := blk_frozen BK190.out 7
                    have hfz85_8 := blk_frozen BK190.out 8
                    have hfz85_9 := blk_frozen BK190.out 9
                    go_wp2
                    refine bodyPost_ret (results_cell_row rfl _ _ gb190 61 #[.int .i64 a0_0, .int .i64 0, .string a0_2, .string (⟨#[]⟩ : ByteArray), .slice none 0 0, .int .i64 0, .slice none 0 0, .int .i64 0, .int .i64 0, .int .i64 0] (0, 0) _ rfl (by (with_reducible repeat (first | refine blk_drewN ?_ _ | refine blk_drew ?_ | refine blk_alloc ?_ _)); refine blk_put (cs := #[.int .i64 a0_0, .int .i64 0, .string a0_2, .string (⟨#[]⟩ : ByteArray), .slice none 0 0, .int .i64 0, .slice none 0 0, .int .i64 0, .int .i64 0, .int .i64 0]) ?_ 9 _ rfl; (with_reducible repeat (first | refine blk_drewN ?_ _ | refine blk_drew ?_ | refine blk_alloc ?_ _)); refine blk_put (cs := #[.int .i64 a0_0, .int .i64 0, .string a0_2, .string (⟨#[]⟩ : ByteArray), .slice none 0 0, .int .i64 0, .slice none 0 0, .int .i64 0, .int .i64 0, .int .i64 0]) ?_ 8 _ rfl; (with_reducible repeat (first | refine blk_drewN ?_ _ | refine blk_drew ?_ | refine blk_alloc ?_ _)); refine blk_put (cs := #[.int .i64 a0_0, .int .i64 0, .string a0_2, .string (⟨#[]⟩ : ByteArray), .slice none 0 0, .int .i64 0, .slice none 0 0, .int .i64 0, .int .i64 0, .int .i64 0]) ?_ 7 _ rfl; (with_reducible repeat (first | refine blk_drewN ?_ _ | refine blk_drew ?_ | refine blk_alloc ?_ _)); refine blk_put (cs := #[.int .i64 a0_0, .int .i64 0, .string a0_2, .string (⟨#[]⟩ : ByteArray), .slice none 0 0, .int .i64 0, .slice none 0 0, .int .i64 0, .int .i64 0, .int .i64 0]) ?_ 6 _ rfl; (with_reducible repeat (first | refine blk_drewN ?_ _ | refine blk_drew ?_ | refine blk_alloc ?_ _)); refine blk_put (cs := #[.int .i64 a0_0, .int .i64 0, .string a0_2, .string (⟨#[]⟩ : ByteArray), .slice none 0 0, .int .i64 0, .slice none 0 0, .int .i64 0, .int .i64 0, .int .i64 0]) ?_ 5 _ rfl; (with_reducible repeat (first | refine blk_drewN ?_ _ | refine blk_drew ?_ | refine blk_alloc ?_ _)); refine blk_put (cs := #[.int .i64 a0_0, .int .i64 0, .string a0_2, .string (⟨#[]⟩ : ByteArray), .slice none 0 0, .int .i64 0, .slice none 0 0, .int .i64 0, .int .i64 0, .int .i64 0]) ?_ 4 _ rfl; (with_reducible repeat (first | refine blk_drewN ?_ _ | refine blk_drew ?_ | refine blk_alloc ?_ _)); refine blk_put (cs := #[.int .i64 a0_0, .int .i64 0, .string a0_2, .string (⟨#[]⟩ : ByteArray), .slice none 0 0, .int .i64 0, .slice none 0 0, .int .i64 0, .int .i64 0, .int .i64 0]) ?_ 3 _ rfl; (with_reducible repeat (first | refine blk_drewN ?_ _ | refine blk_drew ?_ | refine blk_alloc ?_ _)); refine blk_put (cs := #[.int .i64 a0_0, .int .i64 0, .string (⟨#[]⟩ : ByteArray), .string (⟨#[]⟩ : ByteArray), .slice none 0 0, .int .i64 0, .slice none 0 0, .int .i64 0, .int .i64 0, .int .i64 0]) ?_ 2 _ rfl; (with_reducible repeat (first | refine blk_drewN ?_ _ | refine blk_drew ?_ | refine blk_alloc ?_ _)); refine blk_put (cs := #[.int .i64 a0_0, .int .i64 0, .string (⟨#[]⟩ : ByteArray), .string (⟨#[]⟩ : ByteArray), .slice none 0 0, .int .i64 0, .slice none 0 0, .int .i64 0, .int .i64 0, .int .i64 0]) ?_ 1 _ rfl; (with_reducible repeat (first | refine blk_drewN ?_ _ | refine blk_drew ?_ | refine blk_alloc ?_ _)); refine blk_put (cs := #[.int .i64 0, .int .i64 0, .string (⟨#[]⟩ : ByteArray), .string (⟨#[]⟩ : ByteArray), .slice none 0 0, .int .i64 0, .slice none 0 0, .int .i64 0, .int .i64 0, .int .i64 0]) ?_ 0 _ rfl; (with_reducible repeat (first | refine blk_drewN ?_ _ | refine blk_drew ?_ | refine blk_alloc ?_ _)); refine blk_far ?_ NB190_191.out _; (with_reducible repeat (first | refine blk_drewN ?_ _ | refine blk_drew ?_ | refine blk_alloc ?_ _)); exact BK190.out) Tryd.underlying61 rfl (by kernel_rfl)) rfl ?_
                    exact ⟨_, _, by first | rfl | (simp [errW_none, errW_some] <;> rfl) | (simp [*, errW_none, errW_some] <;> rfl), by first | exact Kd.R_nil _ _ _ _ _ | exact Kd.N_nil _ _ _ _ _ | exact Kd.V_nil _ _ _ _ _ | exact Kd.Q_nil _ _ _ _ _ | exact Kd.S_nil _ _ _ _ _, by first | exact Kd.R_nil _ _ _ _ _ | exact Kd.N_nil _ _ _ _ _ | exact Kd.V_nil _ _ _ _ _ | exact Kd.Q_nil _ _ _ _ _ | exact Kd.S_nil _ _ _ _ _, by repeat (first | (with_reducible first | exact HB.out | apply below_alloc | apply pw_below_drewN | apply below_drew1 | refine below_set ?_ GE189.out | refine below_set ?_ GE190.out | refine below_set ?_ GE191.out) | exact HB.out), by repeat (first | (with_reducible first | exact HK.out | apply Kept.alloc | apply Kept.drewN | apply Kept.drew | refine Kept.setCell ?_ (.inr GW189.out) _ | refine Kept.setCell ?_ (.inr GW190.out) _ | refine Kept.setCell ?_ (.inr GW191.out) _) | exact HK.out)⟩
                  · replace c79 := Bool.eq_false_iff.mpr c79
                    subst c79
                    have H1 : (if a0_0 = 11 then (some (a0_0, 0, (⟨#[]⟩ : ByteArray), (⟨#[]⟩ : ByteArray), ([] : List ByteArray), a0_5, ([] : List Int), 0, 0, 0)) else (if a0_0 = 12 then (some (a0_0, 0, (⟨#[]⟩ : ByteArray), (⟨#[]⟩ : ByteArray), ([] : List ByteArray), 0, l0_6, 0, 0, 0)) else (if a0_0 = 13 then (some (a0_0, 0, (⟨#[]⟩ : ByteArray), (⟨#[]⟩ : ByteArray), ([] : List ByteArray), 0, ([] : List Int), a0_7, a0_8, a0_9)) else (some (a0_0, 0, (⟨#[]⟩ : ByteArray), (⟨#[]⟩ : ByteArray), ([] : List ByteArray), 0, ([] : List Int), 0, 0, 0))))) = some (r1, r2, r3, r4, r5, r6, r7, r8, r9, r10) := by rw [if_neg (show ¬ (false = true) by decide)] at H; exact H
                    clear H
                    have H := H1
                    clear H1
                    by_cases c86 : a0_0 = 11
                    · rw [if_pos c86] at H
                      have c86b0 : (a0_0 == 11) = true := beq_iff_eq.mpr c86
                      have c86b1 : (a0_0 != 11) = false := bne_eq_false_iff_eq.mpr c86
                      clear c86
                      simp only [Option.some.injEq, Prod.mk.injEq] at H
                      obtain ⟨rfl, rfl, rfl, rfl, rfl, rfl, rfl, rfl, rfl, rfl⟩ := H
                      have hnb87 := NB189_190.out
                      have hnc87 := NB190_189.out
                      have hnb88 := NB189_191.out
                      have hnc88 := NB191_189.out
                      have hcz89_0 : wc.cell? ⟨gb189, 0, none⟩ = some (.int .i64 a0_0) := (blk_cell BK189.out 0).trans rfl
                      have hcz89_1 : wc.cell? ⟨gb189, 1, none⟩ = some (.int .i64 a0_1) := (blk_cell BK189.out 1).trans rfl
                      have hcz89_2 : wc.cell? ⟨gb189, 2, none⟩ = some (.string a0_2) := (blk_cell BK189.out 2).trans rfl
                      have hcz89_3 : wc.cell? ⟨gb189, 3, none⟩ = some (.string a0_3) := (blk_cell BK189.out 3).trans rfl
                      have hcz89_4 : wc.cell? ⟨gb189, 4, none⟩ = some (.slice Ao58 l0_4.length co58) := (blk_cell BK189.out 4).trans rfl
                      have hcz89_5 : wc.cell? ⟨gb189, 5, none⟩ = some (.int .i64 a0_5) := (blk_cell BK189.out 5).trans rfl
                      have hcz89_6 : wc.cell? ⟨gb189, 6, none⟩ = some (.slice Ao59 l0_6.length co59) := (blk_cell BK189.out 6).trans rfl
                      have hcz89_7 : wc.cell? ⟨gb189, 7, none⟩ = some (.int .i64 a0_7) := (blk_cell BK189.out 7).trans rfl
                      have hcz89_8 : wc.cell? ⟨gb189, 8, none⟩ = some (.int .i64 a0_8) := (blk_cell BK189.out 8).trans rfl
                      have hcz89_9 : wc.cell? ⟨gb189, 9, none⟩ = some (.int .i64 a0_9) := (blk_cell BK189.out 9).trans rfl
                      have hfz89_0 := blk_frozen BK189.out 0
                      have hfz89_1 := blk_frozen BK189.out 1
                      have hfz89_2 := blk_frozen BK189.out 2
                      have hfz89_3 := blk_frozen BK189.out 3
                      have hfz89_4 := blk_frozen BK189.out 4
                      have hfz89_5 := blk_frozen BK189.out 5
                      have hfz89_6 := blk_frozen BK189.out 6
                      have hfz89_7 := blk_frozen BK189.out 7
                      have hfz89_8 := blk_frozen BK189.out 8
                      have hfz89_9 := blk_frozen BK189.out 9
                      have hnb90 := NB191_190.out
                      have hnc90 := NB190_191.out
                      have hcz91_0 : wc.cell? ⟨gb191, 0, none⟩ = some (.int .i64 a0_0) := (blk_cell BK191.out 0).trans rfl
                      have hcz91_1 : wc.cell? ⟨gb191, 1, none⟩ = some (.int .i64 0) := (blk_cell BK191.out 1).trans rfl
                      have hcz91_2 : wc.cell? ⟨gb191, 2, none⟩ = some (.string (⟨#[]⟩ : ByteArray)) := (blk_cell BK191.out 2).trans rfl
                      have hcz91_3 : wc.cell? ⟨gb191, 3, none⟩ = some (.string (⟨#[]⟩ : ByteArray)) := (blk_cell BK191.out 3).trans rfl
                      have hcz91_4 : wc.cell? ⟨gb191, 4, none⟩ = some (.slice none 0 0) := (blk_cell BK191.out 4).trans rfl
                      have hcz91_5 : wc.cell? ⟨gb191, 5, none⟩ = some (.int .i64 0) := (blk_cell BK191.out 5).trans rfl
                      have hcz91_6 : wc.cell? ⟨gb191, 6, none⟩ = some (.slice none 0 0) := (blk_cell BK191.out 6).trans rfl
                      have hcz91_7 : wc.cell? ⟨gb191, 7, none⟩ = some (.int .i64 0) := (blk_cell BK191.out 7).trans rfl
                      have hcz91_8 : wc.cell? ⟨gb191, 8, none⟩ = some (.int .i64 0) := (blk_cell BK191.out 8).trans rfl
                      have hcz91_9 : wc.cell? ⟨gb191, 9, none⟩ = some (.int .i64 0) := (blk_cell BK191.out 9).trans rfl
                      have hfz91_0 := blk_frozen BK191.out 0
                      have hfz91_1 := blk_frozen BK191.out 1
                      have hfz91_2 := blk_frozen BK191.out 2
                      have hfz91_3 := blk_frozen BK191.out 3
                      have hfz91_4 := blk_frozen BK191.out 4
                      have hfz91_5 := blk_frozen BK191.out 5
                      have hfz91_6 := blk_frozen BK191.out 6
                      have hfz91_7 := blk_frozen BK191.out 7
                      have hfz91_8 := blk_frozen BK191.out 8
                      have hfz91_9 := blk_frozen BK191.out 9
                      have hcz92_0 : wc.cell? ⟨gb190, 0, none⟩ = some (.int .i64 0) := (blk_cell BK190.out 0).trans rfl
                      have hcz92_1 : wc.cell? ⟨gb190, 1, none⟩ = some (.int .i64 0) := (blk_cell BK190.out 1).trans rfl
                      have hcz92_2 : wc.cell? ⟨gb190, 2, none⟩ = some (.string (⟨#[]⟩ : ByteArray)) := (blk_cell BK190.out 2).trans rfl
                      have hcz92_3 : wc.cell? ⟨gb190, 3, none⟩ = some (.string (⟨#[]⟩ : ByteArray)) := (blk_cell BK190.out 3).trans rfl
                      have hcz92_4 : wc.cell? ⟨gb190, 4, none⟩ = some (.slice none 0 0) := (blk_cell BK190.out 4).trans rfl
                      have hcz92_5 : wc.cell? ⟨gb190, 5, none⟩ = some (.int .i64 0) := (blk_cell BK190.out 5).trans rfl
                      have hcz92_6 : wc.cell? ⟨gb190, 6, none⟩ = some (.slice none 0 0) := (blk_cell BK190.out 6).trans rfl
                      have hcz92_7 : wc.cell? ⟨gb190, 7, none⟩ = some (.int .i64 0) := (blk_cell BK190.out 7).trans rfl
                      have hcz92_8 : wc.cell? ⟨gb190, 8, none⟩ = some (.int .i64 0) := (blk_cell BK190.out 8).trans rfl
                      have hcz92_9 : wc.cell? ⟨gb190, 9, none⟩ = some (.int .i64 0) := (blk_cell BK190.out 9).trans rfl
                      have hfz92_0 := blk_frozen BK190.out 0
                      have hfz92_1 := blk_frozen BK190.out 1
                      have hfz92_2 := blk_frozen BK190.out 2
                      have hfz92_3 := blk_frozen BK190.out 3
                      have hfz92_4 := blk_frozen BK190.out 4
                      have hfz92_5 := blk_frozen BK190.out 5
                      have hfz92_6 := blk_frozen BK190.out 6
                      have hfz92_7 := blk_frozen BK190.out 7
                      have hfz92_8 := blk_frozen BK190.out 8
                      have hfz92_9 := blk_frozen BK190.out 9
                      go_wp2
                      refine bodyPost_ret (results_cell_row rfl _ _ gb190 61 #[.int .i64 a0_0, .int .i64 0, .string (⟨#[]⟩ : ByteArray), .string (⟨#[]⟩ : ByteArray), .slice none 0 0, .int .i64 a0_5, .slice none 0 0, .int .i64 0, .int .i64 0, .int .i64 0] (0, 0) _ rfl (by (with_reducible repeat (first | refine blk_drewN ?_ _ | refine blk_drew ?_ | refine blk_alloc ?_ _)); refine blk_put (cs := #[.int .i64 a0_0, .int .i64 0, .string (⟨#[]⟩ : ByteArray), .string (⟨#[]⟩ : ByteArray), .slice none 0 0, .int .i64 a0_5, .slice none 0 0, .int .i64 0, .int .i64 0, .int .i64 0]) ?_ 9 _ rfl; (with_reducible repeat (first | refine blk_drewN ?_ _ | refine blk_drew ?_ | refine blk_alloc ?_ _)); refine blk_put (cs := #[.int .i64 a0_0, .int .i64 0, .string (⟨#[]⟩ : ByteArray), .string (⟨#[]⟩ : ByteArray), .slice none 0 0, .int .i64 a0_5, .slice none 0 0, .int .i64 0, .int .i64 0, .int .i64 0]) ?_ 8 _ rfl; (with_reducible repeat (first | refine blk_drewN ?_ _ | refine blk_drew ?_ | refine blk_alloc ?_ _)); refine blk_put (cs := #[.int .i64 a0_0, .int .i64 0, .string (⟨#[]⟩ : ByteArray), .string (⟨#[]⟩ : ByteArray), .slice none 0 0, .int .i64 a0_5, .slice none 0 0, .int .i64 0, .int .i64 0, .int .i64 0]) ?_ 7 _ rfl; (with_reducible repeat (first | refine blk_drewN ?_ _ | refine blk_drew ?_ | refine blk_alloc ?_ _)); refine blk_put (cs := #[.int .i64 a0_0, .int .i64 0, .string (⟨#[]⟩ : ByteArray), .string (⟨#[]⟩ : ByteArray), .slice none 0 0, .int .i64 a0_5, .slice none 0 0, .int .i64 0, .int .i64 0, .int .i64 0]) ?_ 6 _ rfl; (with_reducible repeat (first | refine blk_drewN ?_ _ | refine blk_drew ?_ | refine blk_alloc ?_ _)); refine blk_put (cs := #[.int .i64 a0_0, .int .i64 0, .string (⟨#[]⟩ : ByteArray), .string (⟨#[]⟩ : ByteArray), .slice none 0 0, .int .i64 0, .slice none 0 0, .int .i64 0, .int .i64 0, .int .i64 0]) ?_ 5 _ rfl; (with_reducible repeat (first | refine blk_drewN ?_ _ | refine blk_drew ?_ | refine blk_alloc ?_ _)); refine blk_put (cs := #[.int .i64 a0_0, .int .i64 0, .string (⟨#[]⟩ : ByteArray), .string (⟨#[]⟩ : ByteArray), .slice none 0 0, .int .i64 0, .slice none 0 0, .int .i64 0, .int .i64 0, .int .i64 0]) ?_ 4 _ rfl; (with_reducible repeat (first | refine blk_drewN ?_ _ | refine blk_drew ?_ | refine blk_alloc ?_ _)); refine blk_put (cs := #[.int .i64 a0_0, .int .i64 0, .string (⟨#[]⟩ : ByteArray), .string (⟨#[]⟩ : ByteArray), .slice none 0 0, .int .i64 0, .slice none 0 0, .int .i64 0, .int .i64 0, .int .i64 0]) ?_ 3 _ rfl; (with_reducible repeat (first | refine blk_drewN ?_ _ | refine blk_drew ?_ | refine blk_alloc ?_ _)); refine blk_put (cs := #[.int .i64 a0_0, .int .i64 0, .string (⟨#[]⟩ : ByteArray), .string (⟨#[]⟩ : ByteArray), .slice none 0 0, .int .i64 0, .slice none 0 0, .int .i64 0, .int .i64 0, .int .i64 0]) ?_ 2 _ rfl; (with_reducible repeat (first | refine blk_drewN ?_ _ | refine blk_drew ?_ | refine blk_alloc ?_ _)); refine blk_put (cs := #[.int .i64 a0_0, .int .i64 0, .string (⟨#[]⟩ : ByteArray), .string (⟨#[]⟩ : ByteArray), .slice none 0 0, .int .i64 0, .slice none 0 0, .int .i64 0, .int .i64 0, .int .i64 0]) ?_ 1 _ rfl; (with_reducible repeat (first | refine blk_drewN ?_ _ | refine blk_drew ?_ | refine blk_alloc ?_ _)); refine blk_put (cs := #[.int .i64 0, .int .i64 0, .string (⟨#[]⟩ : ByteArray), .string (⟨#[]⟩ : ByteArray), .slice none 0 0, .int .i64 0, .slice none 0 0, .int .i64 0, .int .i64 0, .int .i64 0]) ?_ 0 _ rfl; (with_reducible repeat (first | refine blk_drewN ?_ _ | refine blk_drew ?_ | refine blk_alloc ?_ _)); refine blk_far ?_ NB190_191.out _; (with_reducible repeat (first | refine blk_drewN ?_ _ | refine blk_drew ?_ | refine blk_alloc ?_ _)); exact BK190.out) Tryd.underlying61 rfl (by kernel_rfl)) rfl ?_
                      exact ⟨_, _, by first | rfl | (simp [errW_none, errW_some] <;> rfl) | (simp [*, errW_none, errW_some] <;> rfl), by first | exact Kd.R_nil _ _ _ _ _ | exact Kd.N_nil _ _ _ _ _ | exact Kd.V_nil _ _ _ _ _ | exact Kd.Q_nil _ _ _ _ _ | exact Kd.S_nil _ _ _ _ _, by first | exact Kd.R_nil _ _ _ _ _ | exact Kd.N_nil _ _ _ _ _ | exact Kd.V_nil _ _ _ _ _ | exact Kd.Q_nil _ _ _ _ _ | exact Kd.S_nil _ _ _ _ _, by repeat (first | (with_reducible first | exact HB.out | apply below_alloc | apply pw_below_drewN | apply below_drew1 | refine below_set ?_ GE189.out | refine below_set ?_ GE190.out | refine below_set ?_ GE191.out) | exact HB.out), by repeat (first | (with_reducible first | exact HK.out | apply Kept.alloc | apply Kept.drewN | apply Kept.drew | refine Kept.setCell ?_ (.inr GW189.out) _ | refine Kept.setCell ?_ (.inr GW190.out) _ | refine Kept.setCell ?_ (.inr GW191.out) _) | exact HK.out)⟩
                    · rw [if_neg c86] at H
                      have c86b0 : (a0_0 == 11) = false := beq_eq_false_iff_ne.mpr c86
                      have c86b1 : (a0_0 != 11) = true := bne_iff_ne.mpr c86
                      by_cases c93 : a0_0 = 12
                      · rw [if_pos c93] at H
                        have c93b0 : (a0_0 == 12) = true := beq_iff_eq.mpr c93
                        have c93b1 : (a0_0 != 12) = false := bne_eq_false_iff_eq.mpr c93
                        clear c93
                        simp only [Option.some.injEq, Prod.mk.injEq] at H
                        obtain ⟨rfl, rfl, rfl, rfl, rfl, rfl, rfl, rfl, rfl, rfl⟩ := H
                        have hnb94 := NB189_190.out
                        have hnc94 := NB190_189.out
                        have hnb95 := NB189_191.out
                        have hnc95 := NB191_189.out
                        have hcz96_0 : wc.cell? ⟨gb189, 0, none⟩ = some (.int .i64 a0_0) := (blk_cell BK189.out 0).trans rfl
                        have hcz96_1 : wc.cell? ⟨gb189, 1, none⟩ = some (.int .i64 a0_1) := (blk_cell BK189.out 1).trans rfl
                        have hcz96_2 : wc.cell? ⟨gb189, 2, none⟩ = some (.string a0_2) := (blk_cell BK189.out 2).trans rfl
                        have hcz96_3 : wc.cell? ⟨gb189, 3, none⟩ = some (.string a0_3) := (blk_cell BK189.out 3).trans rfl
                        have hcz96_4 : wc.cell? ⟨gb189, 4, none⟩ = some (.slice Ao58 l0_4.length co58) := (blk_cell BK189.out 4).trans rfl
                        have hcz96_5 : wc.cell? ⟨gb189, 5, none⟩ = some (.int .i64 a0_5) := (blk_cell BK189.out 5).trans rfl
                        have hcz96_6 : wc.cell? ⟨gb189, 6, none⟩ = some (.slice Ao59 l0_6.length co59) := (blk_cell BK189.out 6).trans rfl
                        have hcz96_7 : wc.cell? ⟨gb189, 7, none⟩ = some (.int .i64 a0_7) := (blk_cell BK189.out 7).trans rfl
                        have hcz96_8 : wc.cell? ⟨gb189, 8, none⟩ = some (.int .i64 a0_8) := (blk_cell BK189.out 8).trans rfl
                        have hcz96_9 : wc.cell? ⟨gb189, 9, none⟩ = some (.int .i64 a0_9) := (blk_cell BK189.out 9).trans rfl
                        have hfz96_0 := blk_frozen BK189.out 0
                        have hfz96_1 := blk_frozen BK189.out 1
                        have hfz96_2 := blk_frozen BK189.out 2
                        have hfz96_3 := blk_frozen BK189.out 3
                        have hfz96_4 := blk_frozen BK189.out 4
                        have hfz96_5 := blk_frozen BK189.out 5
                        have hfz96_6 := blk_frozen BK189.out 6
                        have hfz96_7 := blk_frozen BK189.out 7
                        have hfz96_8 := blk_frozen BK189.out 8
                        have hfz96_9 := blk_frozen BK189.out 9
                        have hnb97 := NB191_190.out
                        have hnc97 := NB190_191.out
                        have hcz98_0 : wc.cell? ⟨gb191, 0, none⟩ = some (.int .i64 a0_0) := (blk_cell BK191.out 0).trans rfl
                        have hcz98_1 : wc.cell? ⟨gb191, 1, none⟩ = some (.int .i64 0) := (blk_cell BK191.out 1).trans rfl
                        have hcz98_2 : wc.cell? ⟨gb191, 2, none⟩ = some (.string (⟨#[]⟩ : ByteArray)) := (blk_cell BK191.out 2).trans rfl
                        have hcz98_3 : wc.cell? ⟨gb191, 3, none⟩ = some (.string (⟨#[]⟩ : ByteArray)) := (blk_cell BK191.out 3).trans rfl
                        have hcz98_4 : wc.cell? ⟨gb191, 4, none⟩ = some (.slice none 0 0) := (blk_cell BK191.out 4).trans rfl
                        have hcz98_5 : wc.cell? ⟨gb191, 5, none⟩ = some (.int .i64 0) := (blk_cell BK191.out 5).trans rfl
                        have hcz98_6 : wc.cell? ⟨gb191, 6, none⟩ = some (.slice none 0 0) := (blk_cell BK191.out 6).trans rfl
                        have hcz98_7 : wc.cell? ⟨gb191, 7, none⟩ = some (.int .i64 0) := (blk_cell BK191.out 7).trans rfl
                        have hcz98_8 : wc.cell? ⟨gb191, 8, none⟩ = some (.int .i64 0) := (blk_cell BK191.out 8).trans rfl
                        have hcz98_9 : wc.cell? ⟨gb191, 9, none⟩ = some (.int .i64 0) := (blk_cell BK191.out 9).trans rfl
                        have hfz98_0 := blk_frozen BK191.out 0
                        have hfz98_1 := blk_frozen BK191.out 1
                        have hfz98_2 := blk_frozen BK191.out 2
                        have hfz98_3 := blk_frozen BK191.out 3
                        have hfz98_4 := blk_frozen BK191.out 4
                        have hfz98_5 := blk_frozen BK191.out 5
                        have hfz98_6 := blk_frozen BK191.out 6
                        have hfz98_7 := blk_frozen BK191.out 7
                        have hfz98_8 := blk_frozen BK191.out 8
                        have hfz98_9 := blk_frozen BK191.out 9
                        have hcz99_0 : wc.cell? ⟨gb190, 0, none⟩ = some (.int .i64 0) := (blk_cell BK190.out 0).trans rfl
                        have hcz99_1 : wc.cell? ⟨gb190, 1, none⟩ = some (.int .i64 0) := (blk_cell BK190.out 1).trans rfl
                        have hcz99_2 : wc.cell? ⟨gb190, 2, none⟩ = some (.string (⟨#[]⟩ : ByteArray)) := (blk_cell BK190.out 2).trans rfl
                        have hcz99_3 : wc.cell? ⟨gb190, 3, none⟩ = some (.string (⟨#[]⟩ : ByteArray)) := (blk_cell BK190.out 3).trans rfl
                        have hcz99_4 : wc.cell? ⟨gb190, 4, none⟩ = some (.slice none 0 0) := (blk_cell BK190.out 4).trans rfl
                        have hcz99_5 : wc.cell? ⟨gb190, 5, none⟩ = some (.int .i64 0) := (blk_cell BK190.out 5).trans rfl
                        have hcz99_6 : wc.cell? ⟨gb190, 6, none⟩ = some (.slice none 0 0) := (blk_cell BK190.out 6).trans rfl
                        have hcz99_7 : wc.cell? ⟨gb190, 7, none⟩ = some (.int .i64 0) := (blk_cell BK190.out 7).trans rfl
                        have hcz99_8 : wc.cell? ⟨gb190, 8, none⟩ = some (.int .i64 0) := (blk_cell BK190.out 8).trans rfl
                        have hcz99_9 : wc.cell? ⟨gb190, 9, none⟩ = some (.int .i64 0) := (blk_cell BK190.out 9).trans rfl
                        have hfz99_0 := blk_frozen BK190.out 0
                        have hfz99_1 := blk_frozen BK190.out 1
                        have hfz99_2 := blk_frozen BK190.out 2
                        have hfz99_3 := blk_frozen BK190.out 3
                        have hfz99_4 := blk_frozen BK190.out 4
                        have hfz99_5 := blk_frozen BK190.out 5
                        have hfz99_6 := blk_frozen BK190.out 6
                        have hfz99_7 := blk_frozen BK190.out 7
                        have hfz99_8 := blk_frozen BK190.out 8
                        have hfz99_9 := blk_frozen BK190.out 9
                        go_wp2
                        refine bodyPost_ret (results_cell_row rfl _ _ gb190 61 #[.int .i64 a0_0, .int .i64 0, .string (⟨#[]⟩ : ByteArray), .string (⟨#[]⟩ : ByteArray), .slice none 0 0, .int .i64 0, .slice Ao59 l0_6.length co59, .int .i64 0, .int .i64 0, .int .i64 0] (0, 0) _ rfl (by (with_reducible repeat (first | refine blk_drewN ?_ _ | refine blk_drew ?_ | refine blk_alloc ?_ _)); refine blk_put (cs := #[.int .i64 a0_0, .int .i64 0, .string (⟨#[]⟩ : ByteArray), .string (⟨#[]⟩ : ByteArray), .slice none 0 0, .int .i64 0, .slice Ao59 l0_6.length co59, .int .i64 0, .int .i64 0, .int .i64 0]) ?_ 9 _ rfl; (with_reducible repeat (first | refine blk_drewN ?_ _ | refine blk_drew ?_ | refine blk_alloc ?_ _)); refine blk_put (cs := #[.int .i64 a0_0, .int .i64 0, .string (⟨#[]⟩ : ByteArray), .string (⟨#[]⟩ : ByteArray), .slice none 0 0, .int .i64 0, .slice Ao59 l0_6.length co59, .int .i64 0, .int .i64 0, .int .i64 0]) ?_ 8 _ rfl; (with_reducible repeat (first | refine blk_drewN ?_ _ | refine blk_drew ?_ | refine blk_alloc ?_ _)); refine blk_put (cs := #[.int .i64 a0_0, .int .i64 0, .string (⟨#[]⟩ : ByteArray), .string (⟨#[]⟩ : ByteArray), .slice none 0 0, .int .i64 0, .slice Ao59 l0_6.length co59, .int .i64 0, .int .i64 0, .int .i64 0]) ?_ 7 _ rfl; (with_reducible repeat (first | refine blk_drewN ?_ _ | refine blk_drew ?_ | refine blk_alloc ?_ _)); refine blk_put (cs := #[.int .i64 a0_0, .int .i64 0, .string (⟨#[]⟩ : ByteArray), .string (⟨#[]⟩ : ByteArray), .slice none 0 0, .int .i64 0, .slice none 0 0, .int .i64 0, .int .i64 0, .int .i64 0]) ?_ 6 _ rfl; (with_reducible repeat (first | refine blk_drewN ?_ _ | refine blk_drew ?_ | refine blk_alloc ?_ _)); refine blk_put (cs := #[.int .i64 a0_0, .int .i64 0, .string (⟨#[]⟩ : ByteArray), .string (⟨#[]⟩ : ByteArray), .slice none 0 0, .int .i64 0, .slice none 0 0, .int .i64 0, .int .i64 0, .int .i64 0]) ?_ 5 _ rfl; (with_reducible repeat (first | refine blk_drewN ?_ _ | refine blk_drew ?_ | refine blk_alloc ?_ _)); refine blk_put (cs := #[.int .i64 a0_0, .int .i64 0, .string (⟨#[]⟩ : ByteArray), .string (⟨#[]⟩ : ByteArray), .slice none 0 0, .int .i64 0, .slice none 0 0, .int .i64 0, .int .i64 0, .int .i64 0]) ?_ 4 _ rfl; (with_reducible repeat (first | refine blk_drewN ?_ _ | refine blk_drew ?_ | refine blk_alloc ?_ _)); refine blk_put (cs := #[.int .i64 a0_0, .int .i64 0, .string (⟨#[]⟩ : ByteArray), .string (⟨#[]⟩ : ByteArray), .slice none 0 0, .int .i64 0, .slice none 0 0, .int .i64 0, .int .i64 0, .int .i64 0]) ?_ 3 _ rfl; (with_reducible repeat (first | refine blk_drewN ?_ _ | refine blk_drew ?_ | refine blk_alloc ?_ _)); refine blk_put (cs := #[.int .i64 a0_0, .int .i64 0, .string (⟨#[]⟩ : ByteArray), .string (⟨#[]⟩ : ByteArray), .slice none 0 0, .int .i64 0, .slice none 0 0, .int .i64 0, .int .i64 0, .int .i64 0]) ?_ 2 _ rfl; (with_reducible repeat (first | refine blk_drewN ?_ _ | refine blk_drew ?_ | refine blk_alloc ?_ _)); refine blk_put (cs := #[.int .i64 a0_0, .int .i64 0, .string (⟨#[]⟩ : ByteArray), .string (⟨#[]⟩ : ByteArray), .slice none 0 0, .int .i64 0, .slice none 0 0, .int .i64 0, .int .i64 0, .int .i64 0]) ?_ 1 _ rfl; (with_reducible repeat (first | refine blk_drewN ?_ _ | refine blk_drew ?_ | refine blk_alloc ?_ _)); refine blk_put (cs := #[.int .i64 0, .int .i64 0, .string (⟨#[]⟩ : ByteArray), .string (⟨#[]⟩ : ByteArray), .slice none 0 0, .int .i64 0, .slice none 0 0, .int .i64 0, .int .i64 0, .int .i64 0]) ?_ 0 _ rfl; (with_reducible repeat (first | refine blk_drewN ?_ _ | refine blk_drew ?_ | refine blk_alloc ?_ _)); refine blk_far ?_ NB190_191.out _; (with_reducible repeat (first | refine blk_drewN ?_ _ | refine blk_drew ?_ | refine blk_alloc ?_ _)); exact BK190.out) Tryd.underlying61 rfl (by kernel_rfl)) rfl ?_
                        exact ⟨_, _, by first | rfl | (simp [errW_none, errW_some] <;> rfl) | (simp [*, errW_none, errW_some] <;> rfl), by first | exact Kd.R_nil _ _ _ _ _ | exact Kd.N_nil _ _ _ _ _ | exact Kd.V_nil _ _ _ _ _ | exact Kd.Q_nil _ _ _ _ _ | exact Kd.S_nil _ _ _ _ _, by (with_reducible repeat (first | apply Kd.R_alloc | apply Kd.R_drewN | apply Kd.R_drew)); exact Kd.R_mono (Kd.R_far (p := ⟨gb190, 9, none⟩) (Kd.R_far (p := ⟨gb190, 8, none⟩) (Kd.R_far (p := ⟨gb190, 7, none⟩) (Kd.R_far (p := ⟨gb190, 6, none⟩) (Kd.R_far (p := ⟨gb190, 5, none⟩) (Kd.R_far (p := ⟨gb190, 4, none⟩) (Kd.R_far (p := ⟨gb190, 3, none⟩) (Kd.R_far (p := ⟨gb190, 2, none⟩) (Kd.R_far (p := ⟨gb190, 1, none⟩) (Kd.R_far (p := ⟨gb190, 0, none⟩) (Kd.R_far (p := ⟨gb191, 6, none⟩) (Kd.R_types (Kd.R_types HO_190006.out BK191.out (by decide)) BK190.out (by decide)) (fun _ hk => hk.1.2) (.slice Ao59 l0_6.length co59)) (fun _ hk => hk.2) (.int .i64 a0_0)) (fun _ hk => hk.2) (.int .i64 0)) (fun _ hk => hk.2) (.string (⟨#[]⟩ : ByteArray))) (fun _ hk => hk.2) (.string (⟨#[]⟩ : ByteArray))) (fun _ hk => hk.2) (.slice none 0 0)) (fun _ hk => hk.2) (.int .i64 0)) (fun _ hk => hk.2) (.slice Ao59 l0_6.length co59)) (fun _ hk => hk.2) (.int .i64 0)) (fun _ hk => hk.2) (.int .i64 0)) (fun _ hk => hk.2) (.int .i64 0)) (fun _ hk => hk.1.1), by repeat (first | (with_reducible first | exact HB.out | apply below_alloc | apply pw_below_drewN | apply below_drew1 | refine below_set ?_ GE189.out | refine below_set ?_ GE190.out | refine below_set ?_ GE191.out) | exact HB.out), by repeat (first | (with_reducible first | exact HK.out | apply Kept.alloc | apply Kept.drewN | apply Kept.drew | refine Kept.setCell ?_ (.inr GW189.out) _ | refine Kept.setCell ?_ (.inr GW190.out) _ | refine Kept.setCell ?_ (.inr GW191.out) _) | exact HK.out)⟩
                      · rw [if_neg c93] at H
                        have c93b0 : (a0_0 == 12) = false := beq_eq_false_iff_ne.mpr c93
                        have c93b1 : (a0_0 != 12) = true := bne_iff_ne.mpr c93
                        by_cases c100 : a0_0 = 13
                        · rw [if_pos c100] at H
                          have c100b0 : (a0_0 == 13) = true := beq_iff_eq.mpr c100
                          have c100b1 : (a0_0 != 13) = false := bne_eq_false_iff_eq.mpr c100
                          clear c100
                          simp only [Option.some.injEq, Prod.mk.injEq] at H
                          obtain ⟨rfl, rfl, rfl, rfl, rfl, rfl, rfl, rfl, rfl, rfl⟩ := H
                          try go_wp2
                          have n0_ := Aside0.mk (Kd.R_drew HO_190004.out)
                          have n1_ := Aside0.mk (Kd.R_drew HO_190006.out)
                          have n2_ := Aside0.mk (blk_drew BK189.out)
                          have n3_ := Aside0.mk (blk_drew BK190.out)
                          have n4_ := Aside0.mk (blk_drew BK191.out)
                          have n5_ := Aside0.mk (Kept.drew HK.out)
                          have n6_ := Aside0.mk (below_drew1 HB.out)
                          clear HO_190004
                          clear HO_190006
                          clear BK189
                          clear BK190
                          clear BK191
                          clear HK
                          clear HB
                          have HO_190004 := n0_
                          have HO_190006 := n1_
                          have BK189 := n2_
                          have BK190 := n3_
                          have BK191 := n4_
                          have HK := n5_
                          have HB := n6_
                          clear n0_ n1_ n2_ n3_ n4_ n5_ n6_
                          refine start_ (n := 12) (S := fun w' => w'.cell? ⟨gb189, 0, none⟩ = some (.int .i64 a0_0) ∧ w'.cell? ⟨gb189, 1, none⟩ = some (.int .i64 a0_1) ∧ w'.cell? ⟨gb189, 2, none⟩ = some (.string a0_2) ∧ w'.cell? ⟨gb189, 3, none⟩ = some (.string a0_3) ∧ w'.cell? ⟨gb189, 4, none⟩ = some (.slice Ao58 l0_4.length co58) ∧ w'.cell? ⟨gb189, 5, none⟩ = some (.int .i64 a0_5) ∧ w'.cell? ⟨gb189, 6, none⟩ = some (.slice Ao59 l0_6.length co59) ∧ w'.cell? ⟨gb189, 7, none⟩ = some (.int .i64 a0_7) ∧ w'.cell? ⟨gb189, 8, none⟩ = some (.int .i64 a0_8) ∧ w'.cell? ⟨gb189, 9, none⟩ = some (.int .i64 a0_9)) (ds := []) #[false, false, false, false, false, false, false, false, false, false, false, false] (by kernel_rfl) rfl rfl ⟨(blk_cell BK189.out 0).trans rfl, (blk_cell BK189.out 1).trans rfl, (blk_cell BK189.out 2).trans rfl, (blk_cell BK189.out 3).trans rfl, (blk_cell BK189.out 4).trans rfl, (blk_cell BK189.out 5).trans rfl, (blk_cell BK189.out 6).trans rfl, (blk_cell BK189.out 7).trans rfl, (blk_cell BK189.out 8).trans rfl, (blk_cell BK189.out 9).trans rfl⟩ (fun hHeld => ?_); refine with_tabW cachepotlaw26_bare.tab20 cachepotlaw26_bare.bits20 (fun HT_ HW_ => ?_)
                          generalize wc.drew = w101 at HO_190004 HO_190006 BK189 BK190 BK191 HK HB hHeld ⊢
                          refine pure_ (i := 0) (N := some 60) (v := ?_) (a' := ?_) #[true, false, false, false, false, false, false, false, false, false, false, false] rfl rfl (any_of HT_.out (by kernel_rfl)) (fun _ _ _ h => h) (Or.inl ⟨by rfl, ?_⟩) ?_ ?_
                          rotate_left
                          · intro w'
                            go_simp
                            with_reducible rfl
                          rotate_left
                          · simp only [Act.put, List.setIfInBounds_toArray, List.set_cons_zero, List.set_cons_succ, i64_w, i32_w]
                            rfl
                          refine pure_ (i := 2) (N := some 62) (v := ?_) (a' := ?_) #[true, false, true, false, false, false, false, false, false, false, false, false] rfl rfl (any_of HT_.out (by kernel_rfl)) (fun _ _ _ h => h) (Or.inl ⟨by rfl, ?_⟩) ?_ ?_
                          rotate_left
                          · intro w'
                            go_simp
                            with_reducible rfl
                          rotate_left
                          · simp only [Act.put, List.setIfInBounds_toArray, List.set_cons_zero, List.set_cons_succ, i64_w, i32_w]
                            rfl
                          refine pure_ (i := 4) (N := some 64) (v := ?_) (a' := ?_) #[true, false, true, false, true, false, false, false, false, false, false, false] rfl rfl (any_of HT_.out (by kernel_rfl)) (fun _ _ _ h => h) (Or.inl ⟨by rfl, ?_⟩) ?_ ?_
                          rotate_left
                          · intro w'
                            go_simp
                            with_reducible rfl
                          rotate_left
                          · simp only [Act.put, List.setIfInBounds_toArray, List.set_cons_zero, List.set_cons_succ, i64_w, i32_w]
                            rfl
                          refine take_ (i := 1) (N := some 61) (v := ?_) (a' := ?_) #[true, true, true, false, true, false, false, false, false, false, false, false] rfl rfl (take_ofW HT_.out HW_.out (by kernel_rfl)) (fun _ _ _ h => h) (Or.inl ⟨by rfl, ?_⟩) hHeld ?_ ?_
                          rotate_left
                          · rintro w' ⟨s0, s1, s2, s3, s4, s5, s6, s7, s8, s9⟩
                            go_simp
                            with_reducible rfl
                          rotate_left
                          · simp only [Act.put, List.setIfInBounds_toArray, List.set_cons_zero, List.set_cons_succ, i64_w, i32_w]
                            rfl
                          refine pure_ (i := 6) (N := some 66) (v := ?_) (a' := ?_) #[true, true, true, false, true, false, true, false, false, false, false, false] rfl rfl (any_of HT_.out (by kernel_rfl)) (fun _ _ _ h => h) (Or.inl ⟨by rfl, ?_⟩) ?_ ?_
                          rotate_left
                          · intro w'
                            go_simp
                            with_reducible rfl
                          rotate_left
                          · simp only [Act.put, List.setIfInBounds_toArray, List.set_cons_zero, List.set_cons_succ, i64_w, i32_w]
                            rfl
                          refine take_ (i := 3) (N := some 63) (v := ?_) (a' := ?_) #[true, true, true, true, true, false, true, false, false, false, false, false] rfl rfl (take_ofW HT_.out HW_.out (by kernel_rfl)) (fun _ _ _ h => h) (Or.inl ⟨by rfl, ?_⟩) hHeld ?_ ?_
                          rotate_left
                          · rintro w' ⟨s0, s1, s2, s3, s4, s5, s6, s7, s8, s9⟩
                            go_simp
                            with_reducible rfl
                          rotate_left
                          · simp only [Act.put, List.setIfInBounds_toArray, List.set_cons_zero, List.set_cons_succ, i64_w, i32_w]
                            rfl
                          refine take_ (i := 5) (N := some 65) (v := ?_) (a' := ?_) #[true, true, true, true, true, true, true, false, false, false, false, false] rfl rfl (take_ofW HT_.out HW_.out (by kernel_rfl)) (fun _ _ _ h => h) (Or.inl ⟨by rfl, ?_⟩) hHeld ?_ ?_
                          rotate_left
                          · rintro w' ⟨s0, s1, s2, s3, s4, s5, s6, s7, s8, s9⟩
                            go_simp
                            with_reducible rfl
                          rotate_left
                          · simp only [Act.put, List.setIfInBounds_toArray, List.set_cons_zero, List.set_cons_succ, i64_w, i32_w]
                            rfl
                          refine one_ (i := 7) (N := none) #[true, true, true, true, true, true, true, true, false, false, false, false] rfl rfl (one_of HT_.out (by kernel_rfl)) (by decide) (fun K hK => ?_)
                          have hs102 : w101.cell? ⟨gb191, 7, none⟩ = some (.int .i64 0) := (blk_cell BK191.out 7).trans rfl
                          have hfs102 := blk_frozen BK191.out 7
                          have hns102_0 := NB189_191.out
                          have hns102_1 := NB190_191.out
                          have hms102_0 := NB191_189.out
                          have hms102_1 := NB191_190.out
                          refine skip_ (w1 := ?_) (by rfl) rfl ?_ ?_
                          rotate_left
                          · go_simp
                            rfl
                          refine hK.out _ _ ⟨((cell_far (p := ⟨gb191, _, none⟩) NB189_191.out _).trans (hHeld.1)), ((cell_far (p := ⟨gb191, _, none⟩) NB189_191.out _).trans (hHeld.2.1)), ((cell_far (p := ⟨gb191, _, none⟩) NB189_191.out _).trans (hHeld.2.2.1)), ((cell_far (p := ⟨gb191, _, none⟩) NB189_191.out _).trans (hHeld.2.2.2.1)), ((cell_far (p := ⟨gb191, _, none⟩) NB189_191.out _).trans (hHeld.2.2.2.2.1)), ((cell_far (p := ⟨gb191, _, none⟩) NB189_191.out _).trans (hHeld.2.2.2.2.2.1)), ((cell_far (p := ⟨gb191, _, none⟩) NB189_191.out _).trans (hHeld.2.2.2.2.2.2.1)), ((cell_far (p := ⟨gb191, _, none⟩) NB189_191.out _).trans (hHeld.2.2.2.2.2.2.2.1)), ((cell_far (p := ⟨gb191, _, none⟩) NB189_191.out _).trans (hHeld.2.2.2.2.2.2.2.2.1)), ((cell_far (p := ⟨gb191, _, none⟩) NB189_191.out _).trans (hHeld.2.2.2.2.2.2.2.2.2))⟩ (fun hHeld => ?_)
                          clear hK K
                          refine pure_ (i := 8) (N := some 67) (v := ?_) (a' := ?_) #[true, true, true, true, true, true, true, true, true, false, false, false] rfl rfl (any_of HT_.out (by kernel_rfl)) (fun _ _ _ h => h) (Or.inl ⟨by rfl, ?_⟩) ?_ ?_
                          rotate_left
                          · intro w'
                            go_simp
                            with_reducible rfl
                          rotate_left
                          · simp only [Act.put, List.setIfInBounds_toArray, List.set_cons_zero, List.set_cons_succ, i64_w, i32_w]
                            rfl
                          refine one_ (i := 9) (N := none) #[true, true, true, true, true, true, true, true, true, true, false, false] rfl rfl (one_of HT_.out (by kernel_rfl)) (by decide) (fun K hK => ?_)
                          have hs103 : w101.cell? ⟨gb191, 8, none⟩ = some (.int .i64 0) := (blk_cell BK191.out 8).trans rfl
                          have hfs103 := blk_frozen BK191.out 8
                          have hns103_0 := NB189_191.out
                          have hns103_1 := NB190_191.out
                          have hms103_0 := NB191_189.out
                          have hms103_1 := NB191_190.out
                          refine skip_ (w1 := ?_) (by rfl) rfl ?_ ?_
                          rotate_left
                          · go_simp
                            rfl
                          refine hK.out _ _ ⟨((cell_far (p := ⟨gb191, _, none⟩) NB189_191.out _).trans (hHeld.1)), ((cell_far (p := ⟨gb191, _, none⟩) NB189_191.out _).trans (hHeld.2.1)), ((cell_far (p := ⟨gb191, _, none⟩) NB189_191.out _).trans (hHeld.2.2.1)), ((cell_far (p := ⟨gb191, _, none⟩) NB189_191.out _).trans (hHeld.2.2.2.1)), ((cell_far (p := ⟨gb191, _, none⟩) NB189_191.out _).trans (hHeld.2.2.2.2.1)), ((cell_far (p := ⟨gb191, _, none⟩) NB189_191.out _).trans (hHeld.2.2.2.2.2.1)), ((cell_far (p := ⟨gb191, _, none⟩) NB189_191.out _).trans (hHeld.2.2.2.2.2.2.1)), ((cell_far (p := ⟨gb191, _, none⟩) NB189_191.out _).trans (hHeld.2.2.2.2.2.2.2.1)), ((cell_far (p := ⟨gb191, _, none⟩) NB189_191.out _).trans (hHeld.2.2.2.2.2.2.2.2.1)), ((cell_far (p := ⟨gb191, _, none⟩) NB189_191.out _).trans (hHeld.2.2.2.2.2.2.2.2.2))⟩ (fun hHeld => ?_)
                          clear hK K
                          refine pure_ (i := 10) (N := some 68) (v := ?_) (a' := ?_) #[true, true, true, true, true, true, true, true, true, true, true, false] rfl rfl (any_of HT_.out (by kernel_rfl)) (fun _ _ _ h => h) (Or.inl ⟨by rfl, ?_⟩) ?_ ?_
                          rotate_left
                          · intro w'
                            go_simp
                            with_reducible rfl
                          rotate_left
                          · simp only [Act.put, List.setIfInBounds_toArray, List.set_cons_zero, List.set_cons_succ, i64_w, i32_w]
                            rfl
                          refine one_ (i := 11) (N := none) #[true, true, true, true, true, true, true, true, true, true, true, true] rfl rfl (one_of HT_.out (by kernel_rfl)) (by decide) (fun K hK => ?_)
                          have hs104 : w101.cell? ⟨gb191, 9, none⟩ = some (.int .i64 0) := (blk_cell BK191.out 9).trans rfl
                          have hfs104 := blk_frozen BK191.out 9
                          have hns104_0 := NB189_191.out
                          have hns104_1 := NB190_191.out
                          have hms104_0 := NB191_189.out
                          have hms104_1 := NB191_190.out
                          refine skip_ (w1 := ?_) (by rfl) rfl ?_ ?_
                          rotate_left
                          · go_simp
                            rfl
                          refine hK.out _ _ ⟨((cell_far (p := ⟨gb191, _, none⟩) NB189_191.out _).trans (hHeld.1)), ((cell_far (p := ⟨gb191, _, none⟩) NB189_191.out _).trans (hHeld.2.1)), ((cell_far (p := ⟨gb191, _, none⟩) NB189_191.out _).trans (hHeld.2.2.1)), ((cell_far (p := ⟨gb191, _, none⟩) NB189_191.out _).trans (hHeld.2.2.2.1)), ((cell_far (p := ⟨gb191, _, none⟩) NB189_191.out _).trans (hHeld.2.2.2.2.1)), ((cell_far (p := ⟨gb191, _, none⟩) NB189_191.out _).trans (hHeld.2.2.2.2.2.1)), ((cell_far (p := ⟨gb191, _, none⟩) NB189_191.out _).trans (hHeld.2.2.2.2.2.2.1)), ((cell_far (p := ⟨gb191, _, none⟩) NB189_191.out _).trans (hHeld.2.2.2.2.2.2.2.1)), ((cell_far (p := ⟨gb191, _, none⟩) NB189_191.out _).trans (hHeld.2.2.2.2.2.2.2.2.1)), ((cell_far (p := ⟨gb191, _, none⟩) NB189_191.out _).trans (hHeld.2.2.2.2.2.2.2.2.2))⟩ (fun hHeld => ?_)
                          clear hK K
                          refine done_ (done_of HT_.out (by kernel_rfl)) ?_
                          have hnb105 := NB191_189.out
                          have hnc105 := NB189_191.out
                          have hnb106 := NB191_190.out
                          have hnc106 := NB190_191.out
                          have hcz107_0 : w101.cell? ⟨gb191, 0, none⟩ = some (.int .i64 a0_0) := (blk_cell BK191.out 0).trans rfl
                          have hcz107_1 : w101.cell? ⟨gb191, 1, none⟩ = some (.int .i64 0) := (blk_cell BK191.out 1).trans rfl
                          have hcz107_2 : w101.cell? ⟨gb191, 2, none⟩ = some (.string (⟨#[]⟩ : ByteArray)) := (blk_cell BK191.out 2).trans rfl
                          have hcz107_3 : w101.cell? ⟨gb191, 3, none⟩ = some (.string (⟨#[]⟩ : ByteArray)) := (blk_cell BK191.out 3).trans rfl
                          have hcz107_4 : w101.cell? ⟨gb191, 4, none⟩ = some (.slice none 0 0) := (blk_cell BK191.out 4).trans rfl
                          have hcz107_5 : w101.cell? ⟨gb191, 5, none⟩ = some (.int .i64 0) := (blk_cell BK191.out 5).trans rfl
                          have hcz107_6 : w101.cell? ⟨gb191, 6, none⟩ = some (.slice none 0 0) := (blk_cell BK191.out 6).trans rfl
                          have hcz107_7 : w101.cell? ⟨gb191, 7, none⟩ = some (.int .i64 0) := (blk_cell BK191.out 7).trans rfl
                          have hcz107_8 : w101.cell? ⟨gb191, 8, none⟩ = some (.int .i64 0) := (blk_cell BK191.out 8).trans rfl
                          have hcz107_9 : w101.cell? ⟨gb191, 9, none⟩ = some (.int .i64 0) := (blk_cell BK191.out 9).trans rfl
                          have hfz107_0 := blk_frozen BK191.out 0
                          have hfz107_1 := blk_frozen BK191.out 1
                          have hfz107_2 := blk_frozen BK191.out 2
                          have hfz107_3 := blk_frozen BK191.out 3
                          have hfz107_4 := blk_frozen BK191.out 4
                          have hfz107_5 := blk_frozen BK191.out 5
                          have hfz107_6 := blk_frozen BK191.out 6
                          have hfz107_7 := blk_frozen BK191.out 7
                          have hfz107_8 := blk_frozen BK191.out 8
                          have hfz107_9 := blk_frozen BK191.out 9
                          have hnb108 := NB190_189.out
                          have hnc108 := NB189_190.out
                          have hcz109_0 : w101.cell? ⟨gb190, 0, none⟩ = some (.int .i64 0) := (blk_cell BK190.out 0).trans rfl
                          have hcz109_1 : w101.cell? ⟨gb190, 1, none⟩ = some (.int .i64 0) := (blk_cell BK190.out 1).trans rfl
                          have hcz109_2 : w101.cell? ⟨gb190, 2, none⟩ = some (.string (⟨#[]⟩ : ByteArray)) := (blk_cell BK190.out 2).trans rfl
                          have hcz109_3 : w101.cell? ⟨gb190, 3, none⟩ = some (.string (⟨#[]⟩ : ByteArray)) := (blk_cell BK190.out 3).trans rfl
                          have hcz109_4 : w101.cell? ⟨gb190, 4, none⟩ = some (.slice none 0 0) := (blk_cell BK190.out 4).trans rfl
                          have hcz109_5 : w101.cell? ⟨gb190, 5, none⟩ = some (.int .i64 0) := (blk_cell BK190.out 5).trans rfl
                          have hcz109_6 : w101.cell? ⟨gb190, 6, none⟩ = some (.slice none 0 0) := (blk_cell BK190.out 6).trans rfl
                          have hcz109_7 : w101.cell? ⟨gb190, 7, none⟩ = some (.int .i64 0) := (blk_cell BK190.out 7).trans rfl
                          have hcz109_8 : w101.cell? ⟨gb190, 8, none⟩ = some (.int .i64 0) := (blk_cell BK190.out 8).trans rfl
                          have hcz109_9 : w101.cell? ⟨gb190, 9, none⟩ = some (.int .i64 0) := (blk_cell BK190.out 9).trans rfl
                          have hfz109_0 := blk_frozen BK190.out 0
                          have hfz109_1 := blk_frozen BK190.out 1
                          have hfz109_2 := blk_frozen BK190.out 2
                          have hfz109_3 := blk_frozen BK190.out 3
                          have hfz109_4 := blk_frozen BK190.out 4
                          have hfz109_5 := blk_frozen BK190.out 5
                          have hfz109_6 := blk_frozen BK190.out 6
                          have hfz109_7 := blk_frozen BK190.out 7
                          have hfz109_8 := blk_frozen BK190.out 8
                          have hfz109_9 := blk_frozen BK190.out 9
                          try go_wp2
                          refine bodyPost_ret (results_cell_row rfl _ _ gb190 61 #[.int .i64 a0_0, .int .i64 0, .string (⟨#[]⟩ : ByteArray), .string (⟨#[]⟩ : ByteArray), .slice none 0 0, .int .i64 0, .slice none 0 0, .int .i64 a0_7, .int .i64 a0_8, .int .i64 a0_9] (0, 0) _ rfl (by (with_reducible repeat (first | refine blk_drewN ?_ _ | refine blk_drew ?_ | refine blk_alloc ?_ _)); refine blk_put (cs := #[.int .i64 a0_0, .int .i64 0, .string (⟨#[]⟩ : ByteArray), .string (⟨#[]⟩ : ByteArray), .slice none 0 0, .int .i64 0, .slice none 0 0, .int .i64 a0_7, .int .i64 a0_8, .int .i64 0]) ?_ 9 _ rfl; (with_reducible repeat (first | refine blk_drewN ?_ _ | refine blk_drew ?_ | refine blk_alloc ?_ _)); refine blk_put (cs := #[.int .i64 a0_0, .int .i64 0, .string (⟨#[]⟩ : ByteArray), .string (⟨#[]⟩ : ByteArray), .slice none 0 0, .int .i64 0, .slice none 0 0, .int .i64 a0_7, .int .i64 0, .int .i64 0]) ?_ 8 _ rfl; (with_reducible repeat (first | refine blk_drewN ?_ _ | refine blk_drew ?_ | refine blk_alloc ?_ _)); refine blk_put (cs := #[.int .i64 a0_0, .int .i64 0, .string (⟨#[]⟩ : ByteArray), .string (⟨#[]⟩ : ByteArray), .slice none 0 0, .int .i64 0, .slice none 0 0, .int .i64 0, .int .i64 0, .int .i64 0]) ?_ 7 _ rfl; (with_reducible repeat (first | refine blk_drewN ?_ _ | refine blk_drew ?_ | refine blk_alloc ?_ _)); refine blk_put (cs := #[.int .i64 a0_0, .int .i64 0, .string (⟨#[]⟩ : ByteArray), .string (⟨#[]⟩ : ByteArray), .slice none 0 0, .int .i64 0, .slice none 0 0, .int .i64 0, .int .i64 0, .int .i64 0]) ?_ 6 _ rfl; (with_reducible repeat (first | refine blk_drewN ?_ _ | refine blk_drew ?_ | refine blk_alloc ?_ _)); refine blk_put (cs := #[.int .i64 a0_0, .int .i64 0, .string (⟨#[]⟩ : ByteArray), .string (⟨#[]⟩ : ByteArray), .slice none 0 0, .int .i64 0, .slice none 0 0, .int .i64 0, .int .i64 0, .int .i64 0]) ?_ 5 _ rfl; (with_reducible repeat (first | refine blk_drewN ?_ _ | refine blk_drew ?_ | refine blk_alloc ?_ _)); refine blk_put (cs := #[.int .i64 a0_0, .int .i64 0, .string (⟨#[]⟩ : ByteArray), .string (⟨#[]⟩ : ByteArray), .slice none 0 0, .int .i64 0, .slice none 0 0, .int .i64 0, .int .i64 0, .int .i64 0]) ?_ 4 _ rfl; (with_reducible repeat (first | refine blk_drewN ?_ _ | refine blk_drew ?_ | refine blk_alloc ?_ _)); refine blk_put (cs := #[.int .i64 a0_0, .int .i64 0, .string (⟨#[]⟩ : ByteArray), .string (⟨#[]⟩ : ByteArray), .slice none 0 0, .int .i64 0, .slice none 0 0, .int .i64 0, .int .i64 0, .int .i64 0]) ?_ 3 _ rfl; (with_reducible repeat (first | refine blk_drewN ?_ _ | refine blk_drew ?_ | refine blk_alloc ?_ _)); refine blk_put (cs := #[.int .i64 a0_0, .int .i64 0, .string (⟨#[]⟩ : ByteArray), .string (⟨#[]⟩ : ByteArray), .slice none 0 0, .int .i64 0, .slice none 0 0, .int .i64 0, .int .i64 0, .int .i64 0]) ?_ 2 _ rfl; (with_reducible repeat (first | refine blk_drewN ?_ _ | refine blk_drew ?_ | refine blk_alloc ?_ _)); refine blk_put (cs := #[.int .i64 a0_0, .int .i64 0, .string (⟨#[]⟩ : ByteArray), .string (⟨#[]⟩ : ByteArray), .slice none 0 0, .int .i64 0, .slice none 0 0, .int .i64 0, .int .i64 0, .int .i64 0]) ?_ 1 _ rfl; (with_reducible repeat (first | refine blk_drewN ?_ _ | refine blk_drew ?_ | refine blk_alloc ?_ _)); refine blk_put (cs := #[.int .i64 0, .int .i64 0, .string (⟨#[]⟩ : ByteArray), .string (⟨#[]⟩ : ByteArray), .slice none 0 0, .int .i64 0, .slice none 0 0, .int .i64 0, .int .i64 0, .int .i64 0]) ?_ 0 _ rfl; (with_reducible repeat (first | refine blk_drewN ?_ _ | refine blk_drew ?_ | refine blk_alloc ?_ _)); refine blk_far ?_ NB190_191.out _; (with_reducible repeat (first | refine blk_drewN ?_ _ | refine blk_drew ?_ | refine blk_alloc ?_ _)); refine blk_far ?_ NB190_191.out _; (with_reducible repeat (first | refine blk_drewN ?_ _ | refine blk_drew ?_ | refine blk_alloc ?_ _)); refine blk_far ?_ NB190_191.out _; (with_reducible repeat (first | refine blk_drewN ?_ _ | refine blk_drew ?_ | refine blk_alloc ?_ _)); exact BK190.out) Tryd.underlying61 rfl (by kernel_rfl)) rfl ?_
                          exact ⟨_, _, by first | rfl | (simp [errW_none, errW_some] <;> rfl) | (simp [*, errW_none, errW_some] <;> rfl), by first | exact Kd.R_nil _ _ _ _ _ | exact Kd.N_nil _ _ _ _ _ | exact Kd.V_nil _ _ _ _ _ | exact Kd.Q_nil _ _ _ _ _ | exact Kd.S_nil _ _ _ _ _, by first | exact Kd.R_nil _ _ _ _ _ | exact Kd.N_nil _ _ _ _ _ | exact Kd.V_nil _ _ _ _ _ | exact Kd.Q_nil _ _ _ _ _ | exact Kd.S_nil _ _ _ _ _, by repeat (first | (with_reducible first | exact HB.out | apply below_alloc | apply pw_below_drewN | apply below_drew1 | refine below_set ?_ GE189.out | refine below_set ?_ GE190.out | refine below_set ?_ GE191.out) | exact HB.out), by repeat (first | (with_reducible first | exact HK.out | apply Kept.alloc | apply Kept.drewN | apply Kept.drew | refine Kept.setCell ?_ (.inr GW189.out) _ | refine Kept.setCell ?_ (.inr GW190.out) _ | refine Kept.setCell ?_ (.inr GW191.out) _) | exact HK.out)⟩
                        · rw [if_neg c100] at H
                          have c100b0 : (a0_0 == 13) = false := beq_eq_false_iff_ne.mpr c100
                          have c100b1 : (a0_0 != 13) = true := bne_iff_ne.mpr c100
                          simp only [Option.some.injEq, Prod.mk.injEq] at H
                          obtain ⟨rfl, rfl, rfl, rfl, rfl, rfl, rfl, rfl, rfl, rfl⟩ := H
                          have hnb110 := NB191_189.out
                          have hnc110 := NB189_191.out
                          have hnb111 := NB191_190.out
                          have hnc111 := NB190_191.out
                          have hcz112_0 : wc.cell? ⟨gb191, 0, none⟩ = some (.int .i64 a0_0) := (blk_cell BK191.out 0).trans rfl
                          have hcz112_1 : wc.cell? ⟨gb191, 1, none⟩ = some (.int .i64 0) := (blk_cell BK191.out 1).trans rfl
                          have hcz112_2 : wc.cell? ⟨gb191, 2, none⟩ = some (.string (⟨#[]⟩ : ByteArray)) := (blk_cell BK191.out 2).trans rfl
                          have hcz112_3 : wc.cell? ⟨gb191, 3, none⟩ = some (.string (⟨#[]⟩ : ByteArray)) := (blk_cell BK191.out 3).trans rfl
                          have hcz112_4 : wc.cell? ⟨gb191, 4, none⟩ = some (.slice none 0 0) := (blk_cell BK191.out 4).trans rfl
                          have hcz112_5 : wc.cell? ⟨gb191, 5, none⟩ = some (.int .i64 0) := (blk_cell BK191.out 5).trans rfl
                          have hcz112_6 : wc.cell? ⟨gb191, 6, none⟩ = some (.slice none 0 0) := (blk_cell BK191.out 6).trans rfl
                          have hcz112_7 : wc.cell? ⟨gb191, 7, none⟩ = some (.int .i64 0) := (blk_cell BK191.out 7).trans rfl
                          have hcz112_8 : wc.cell? ⟨gb191, 8, none⟩ = some (.int .i64 0) := (blk_cell BK191.out 8).trans rfl
                          have hcz112_9 : wc.cell? ⟨gb191, 9, none⟩ = some (.int .i64 0) := (blk_cell BK191.out 9).trans rfl
                          have hfz112_0 := blk_frozen BK191.out 0
                          have hfz112_1 := blk_frozen BK191.out 1
                          have hfz112_2 := blk_frozen BK191.out 2
                          have hfz112_3 := blk_frozen BK191.out 3
                          have hfz112_4 := blk_frozen BK191.out 4
                          have hfz112_5 := blk_frozen BK191.out 5
                          have hfz112_6 := blk_frozen BK191.out 6
                          have hfz112_7 := blk_frozen BK191.out 7
                          have hfz112_8 := blk_frozen BK191.out 8
                          have hfz112_9 := blk_frozen BK191.out 9
                          have hnb113 := NB190_189.out
                          have hnc113 := NB189_190.out
                          have hcz114_0 : wc.cell? ⟨gb190, 0, none⟩ = some (.int .i64 0) := (blk_cell BK190.out 0).trans rfl
                          have hcz114_1 : wc.cell? ⟨gb190, 1, none⟩ = some (.int .i64 0) := (blk_cell BK190.out 1).trans rfl
                          have hcz114_2 : wc.cell? ⟨gb190, 2, none⟩ = some (.string (⟨#[]⟩ : ByteArray)) := (blk_cell BK190.out 2).trans rfl
                          have hcz114_3 : wc.cell? ⟨gb190, 3, none⟩ = some (.string (⟨#[]⟩ : ByteArray)) := (blk_cell BK190.out 3).trans rfl
                          have hcz114_4 : wc.cell? ⟨gb190, 4, none⟩ = some (.slice none 0 0) := (blk_cell BK190.out 4).trans rfl
                          have hcz114_5 : wc.cell? ⟨gb190, 5, none⟩ = some (.int .i64 0) := (blk_cell BK190.out 5).trans rfl
                          have hcz114_6 : wc.cell? ⟨gb190, 6, none⟩ = some (.slice none 0 0) := (blk_cell BK190.out 6).trans rfl
                          have hcz114_7 : wc.cell? ⟨gb190, 7, none⟩ = some (.int .i64 0) := (blk_cell BK190.out 7).trans rfl
                          have hcz114_8 : wc.cell? ⟨gb190, 8, none⟩ = some (.int .i64 0) := (blk_cell BK190.out 8).trans rfl
                          have hcz114_9 : wc.cell? ⟨gb190, 9, none⟩ = some (.int .i64 0) := (blk_cell BK190.out 9).trans rfl
                          have hfz114_0 := blk_frozen BK190.out 0
                          have hfz114_1 := blk_frozen BK190.out 1
                          have hfz114_2 := blk_frozen BK190.out 2
                          have hfz114_3 := blk_frozen BK190.out 3
                          have hfz114_4 := blk_frozen BK190.out 4
                          have hfz114_5 := blk_frozen BK190.out 5
                          have hfz114_6 := blk_frozen BK190.out 6
                          have hfz114_7 := blk_frozen BK190.out 7
                          have hfz114_8 := blk_frozen BK190.out 8
                          have hfz114_9 := blk_frozen BK190.out 9
                          go_wp2
                          refine bodyPost_ret (results_cell_row rfl _ _ gb190 61 #[.int .i64 a0_0, .int .i64 0, .string (⟨#[]⟩ : ByteArray), .string (⟨#[]⟩ : ByteArray), .slice none 0 0, .int .i64 0, .slice none 0 0, .int .i64 0, .int .i64 0, .int .i64 0] (0, 0) _ rfl (by (with_reducible repeat (first | refine blk_drewN ?_ _ | refine blk_drew ?_ | refine blk_alloc ?_ _)); refine blk_put (cs := #[.int .i64 a0_0, .int .i64 0, .string (⟨#[]⟩ : ByteArray), .string (⟨#[]⟩ : ByteArray), .slice none 0 0, .int .i64 0, .slice none 0 0, .int .i64 0, .int .i64 0, .int .i64 0]) ?_ 9 _ rfl; (with_reducible repeat (first | refine blk_drewN ?_ _ | refine blk_drew ?_ | refine blk_alloc ?_ _)); refine blk_put (cs := #[.int .i64 a0_0, .int .i64 0, .string (⟨#[]⟩ : ByteArray), .string (⟨#[]⟩ : ByteArray), .slice none 0 0, .int .i64 0, .slice none 0 0, .int .i64 0, .int .i64 0, .int .i64 0]) ?_ 8 _ rfl; (with_reducible repeat (first | refine blk_drewN ?_ _ | refine blk_drew ?_ | refine blk_alloc ?_ _)); refine blk_put (cs := #[.int .i64 a0_0, .int .i64 0, .string (⟨#[]⟩ : ByteArray), .string (⟨#[]⟩ : ByteArray), .slice none 0 0, .int .i64 0, .slice none 0 0, .int .i64 0, .int .i64 0, .int .i64 0]) ?_ 7 _ rfl; (with_reducible repeat (first | refine blk_drewN ?_ _ | refine blk_drew ?_ | refine blk_alloc ?_ _)); refine blk_put (cs := #[.int .i64 a0_0, .int .i64 0, .string (⟨#[]⟩ : ByteArray), .string (⟨#[]⟩ : ByteArray), .slice none 0 0, .int .i64 0, .slice none 0 0, .int .i64 0, .int .i64 0, .int .i64 0]) ?_ 6 _ rfl; (with_reducible repeat (first | refine blk_drewN ?_ _ | refine blk_drew ?_ | refine blk_alloc ?_ _)); refine blk_put (cs := #[.int .i64 a0_0, .int .i64 0, .string (⟨#[]⟩ : ByteArray), .string (⟨#[]⟩ : ByteArray), .slice none 0 0, .int .i64 0, .slice none 0 0, .int .i64 0, .int .i64 0, .int .i64 0]) ?_ 5 _ rfl; (with_reducible repeat (first | refine blk_drewN ?_ _ | refine blk_drew ?_ | refine blk_alloc ?_ _)); refine blk_put (cs := #[.int .i64 a0_0, .int .i64 0, .string (⟨#[]⟩ : ByteArray), .string (⟨#[]⟩ : ByteArray), .slice none 0 0, .int .i64 0, .slice none 0 0, .int .i64 0, .int .i64 0, .int .i64 0]) ?_ 4 _ rfl; (with_reducible repeat (first | refine blk_drewN ?_ _ | refine blk_drew ?_ | refine blk_alloc ?_ _)); refine blk_put (cs := #[.int .i64 a0_0, .int .i64 0, .string (⟨#[]⟩ : ByteArray), .string (⟨#[]⟩ : ByteArray), .slice none 0 0, .int .i64 0, .slice none 0 0, .int .i64 0, .int .i64 0, .int .i64 0]) ?_ 3 _ rfl; (with_reducible repeat (first | refine blk_drewN ?_ _ | refine blk_drew ?_ | refine blk_alloc ?_ _)); refine blk_put (cs := #[.int .i64 a0_0, .int .i64 0, .string (⟨#[]⟩ : ByteArray), .string (⟨#[]⟩ : ByteArray), .slice none 0 0, .int .i64 0, .slice none 0 0, .int .i64 0, .int .i64 0, .int .i64 0]) ?_ 2 _ rfl; (with_reducible repeat (first | refine blk_drewN ?_ _ | refine blk_drew ?_ | refine blk_alloc ?_ _)); refine blk_put (cs := #[.int .i64 a0_0, .int .i64 0, .string (⟨#[]⟩ : ByteArray), .string (⟨#[]⟩ : ByteArray), .slice none 0 0, .int .i64 0, .slice none 0 0, .int .i64 0, .int .i64 0, .int .i64 0]) ?_ 1 _ rfl; (with_reducible repeat (first | refine blk_drewN ?_ _ | refine blk_drew ?_ | refine blk_alloc ?_ _)); refine blk_put (cs := #[.int .i64 0, .int .i64 0, .string (⟨#[]⟩ : ByteArray), .string (⟨#[]⟩ : ByteArray), .slice none 0 0, .int .i64 0, .slice none 0 0, .int .i64 0, .int .i64 0, .int .i64 0]) ?_ 0 _ rfl; (with_reducible repeat (first | refine blk_drewN ?_ _ | refine blk_drew ?_ | refine blk_alloc ?_ _)); exact BK190.out) Tryd.underlying61 rfl (by kernel_rfl)) rfl ?_
                          exact ⟨_, _, by first | rfl | (simp [errW_none, errW_some] <;> rfl) | (simp [*, errW_none, errW_some] <;> rfl), by first | exact Kd.R_nil _ _ _ _ _ | exact Kd.N_nil _ _ _ _ _ | exact Kd.V_nil _ _ _ _ _ | exact Kd.Q_nil _ _ _ _ _ | exact Kd.S_nil _ _ _ _ _, by first | exact Kd.R_nil _ _ _ _ _ | exact Kd.N_nil _ _ _ _ _ | exact Kd.V_nil _ _ _ _ _ | exact Kd.Q_nil _ _ _ _ _ | exact Kd.S_nil _ _ _ _ _, by repeat (first | (with_reducible first | exact HB.out | apply below_alloc | apply pw_below_drewN | apply below_drew1 | refine below_set ?_ GE189.out | refine below_set ?_ GE190.out | refine below_set ?_ GE191.out) | exact HB.out), by repeat (first | (with_reducible first | exact HK.out | apply Kept.alloc | apply Kept.drewN | apply Kept.drew | refine Kept.setCell ?_ (.inr GW189.out) _ | refine Kept.setCell ?_ (.inr GW190.out) _ | refine Kept.setCell ?_ (.inr GW191.out) _) | exact HK.out)⟩
end Go.Proofs.YtfaelejeihmgcaaDoor.Stp
end
