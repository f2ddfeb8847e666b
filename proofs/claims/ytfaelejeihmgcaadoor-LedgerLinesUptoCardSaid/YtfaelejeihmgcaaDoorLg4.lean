-- printed by a program of mine (pp.py) over the kit's print.py
import Derived.Test.YtfaelejeihmgcaaDoorLg0
import Derived.Test.YtfaelejeihmgcaaDoorLg3
import Derived.Test.YtfaelejeihmgcaaDoorHandL
namespace Go.Proofs.YtfaelejeihmgcaaDoor.Lgx
open Go.RowKit Go.Proofs.YtfaelejeihmgcaaDoorW.PrintWords Go.Proofs.YtfaelejeihmgcaaDoorW.PrintLast Go.Proofs.YtfaelejeihmgcaaDoorW.PrintMore
attribute [local go_sem] max2_int min2_int max_two min_two max_three min_three max_four min_four   -- for this text's walks alone
set_option linter.unusedVariables false
set_option linter.unusedSimpArgs false

/-! ### cachepotref3_Line: function 33 -/
mutual
def cachepotref3_Line.l0 : Nat → ByteArray → Int → Int → Int → List (S101) → List (S98) → List ByteArray → Option (ByteArray)
  | 0, _, _, _, _, _, _, _ => none
  | k + 1, x3, x4, x159000, x159001, x159002, x159003, x159004 => if x4 < (x159002.length : Int) then (if 0 ≤ x4 then (if (rd_T101 x159002 x4).f1 = true then ((cachepotref3_Hex.f ((rd_T101 x159002 x4).f0)).bind fun t162 => (if 1 + t162.size ≤ 9223372036854775807 then (if ((⟨#[32]⟩ : ByteArray) ++ t162).size + 1 ≤ 9223372036854775807 then (if x3.size + (((⟨#[32]⟩ : ByteArray) ++ t162) ++ (⟨#[33]⟩ : ByteArray)).size ≤ 9223372036854775807 then (cachepotref3_Line.l0 k (x3 ++ (((⟨#[32]⟩ : ByteArray) ++ t162) ++ (⟨#[33]⟩ : ByteArray))) (wrap64 (x4 + 1)) x159000 x159001 x159002 x159003 x159004) else (none)) else (none)) else (none))) else ((cachepotref3_Hex.f ((rd_T101 x159002 x4).f0)).bind fun t164 => (if 1 + t164.size ≤ 9223372036854775807 then (if ((⟨#[32]⟩ : ByteArray) ++ t164).size + 1 ≤ 9223372036854775807 then ((cachepotref3_Hex.f ((rd_T101 x159002 x4).f2)).bind fun t166 => (if (((⟨#[32]⟩ : ByteArray) ++ t164) ++ (⟨#[61]⟩ : ByteArray)).size + t166.size ≤ 9223372036854775807 then (if x3.size + ((((⟨#[32]⟩ : ByteArray) ++ t164) ++ (⟨#[61]⟩ : ByteArray)) ++ t166).size ≤ 9223372036854775807 then (cachepotref3_Line.l0 k (x3 ++ ((((⟨#[32]⟩ : ByteArray) ++ t164) ++ (⟨#[61]⟩ : ByteArray)) ++ t166)) (wrap64 (x4 + 1)) x159000 x159001 x159002 x159003 x159004) else (none)) else (none))) else (none)) else (none)))) else (none)) else (some x3)
def cachepotref3_Line.l1 : Nat → ByteArray → Int → Int → Int → List (S101) → List (S98) → List ByteArray → Option (ByteArray)
  | 0, _, _, _, _, _, _, _ => none
  | k + 1, x3, x5, x159000, x159001, x159002, x159003, x159004 => if x5 < (x159003.length : Int) then (if 0 ≤ x5 then (if (rd_T98 x159003 x5).f1 = true then ((cachepotref3_Hex.f ((rd_T98 x159003 x5).f0)).bind fun t169 => (if 1 + t169.size ≤ 9223372036854775807 then (if ((⟨#[32]⟩ : ByteArray) ++ t169).size + 1 ≤ 9223372036854775807 then ((cachepotref3_Hex.f ((rd_T98 x159003 x5).f2)).bind fun t171 => (if (((⟨#[32]⟩ : ByteArray) ++ t169) ++ (⟨#[61]⟩ : ByteArray)).size + t171.size ≤ 9223372036854775807 then (if ((((⟨#[32]⟩ : ByteArray) ++ t169) ++ (⟨#[61]⟩ : ByteArray)) ++ t171).size + 1 ≤ 9223372036854775807 then ((cachepotref3_Digits.f k (wrap64 ((rd_T98 x159003 x5).f3))).bind fun t173 => (if (((((⟨#[32]⟩ : ByteArray) ++ t169) ++ (⟨#[61]⟩ : ByteArray)) ++ t171) ++ (⟨#[64]⟩ : ByteArray)).size + t173.size ≤ 9223372036854775807 then (if x3.size + ((((((⟨#[32]⟩ : ByteArray) ++ t169) ++ (⟨#[61]⟩ : ByteArray)) ++ t171) ++ (⟨#[64]⟩ : ByteArray)) ++ t173).size ≤ 9223372036854775807 then (cachepotref3_Line.l1 k (x3 ++ ((((((⟨#[32]⟩ : ByteArray) ++ t169) ++ (⟨#[61]⟩ : ByteArray)) ++ t171) ++ (⟨#[64]⟩ : ByteArray)) ++ t173)) (wrap64 (x5 + 1)) x159000 x159001 x159002 x159003 x159004) else (none)) else (none))) else (none)) else (none))) else (none)) else (none))) else ((cachepotref3_Hex.f ((rd_T98 x159003 x5).f0)).bind fun t175 => (if 1 + t175.size ≤ 9223372036854775807 then (if ((⟨#[32]⟩ : ByteArray) ++ t175).size + 1 ≤ 9223372036854775807 then (if x3.size + (((⟨#[32]⟩ : ByteArray) ++ t175) ++ (⟨#[63]⟩ : ByteArray)).size ≤ 9223372036854775807 then (cachepotref3_Line.l1 k (x3 ++ (((⟨#[32]⟩ : ByteArray) ++ t175) ++ (⟨#[63]⟩ : ByteArray))) (wrap64 (x5 + 1)) x159000 x159001 x159002 x159003 x159004) else (none)) else (none)) else (none)))) else (none)) else (some x3)
def cachepotref3_Line.l2 : Nat → ByteArray → Int → Int → Int → List (S101) → List (S98) → List ByteArray → Option (ByteArray)
  | 0, _, _, _, _, _, _, _ => none
  | k + 1, x3, x6, x159000, x159001, x159002, x159003, x159004 => if x6 < (x159004.length : Int) then (if 0 ≤ x6 then ((cachepotref3_Hex.f (rdOf ByteArray.empty x159004 x6)).bind fun t177 => (if 1 + t177.size ≤ 9223372036854775807 then (if x3.size + ((⟨#[32]⟩ : ByteArray) ++ t177).size ≤ 9223372036854775807 then (cachepotref3_Line.l2 k (x3 ++ ((⟨#[32]⟩ : ByteArray) ++ t177)) (wrap64 (x6 + 1)) x159000 x159001 x159002 x159003 x159004) else (none)) else (none))) else (none)) else (some x3)
end
def cachepotref3_Line.f (k : Nat) (a0_0 : Int) (a0_1 : Int) (l0_2 : List (S101)) (l0_3 : List (S98)) (l0_4 : List ByteArray) : Option (ByteArray) := if a0_0 = 1 then ((cachepotref3_Digits.f k (wrap64 (a0_1))).bind fun t159 => (if 7 + t159.size ≤ 9223372036854775807 then (cachepotref3_Line.l0 k ((⟨#[99, 111, 109, 109, 105, 116, 32]⟩ : ByteArray) ++ t159) 0 a0_0 a0_1 l0_2 l0_3 l0_4) else (none))) else (if a0_0 = 2 then (cachepotref3_Line.l1 k (⟨#[103, 111, 116]⟩ : ByteArray) 0 a0_0 a0_1 l0_2 l0_3 l0_4) else (if a0_0 = 3 then (cachepotref3_Line.l2 k (⟨#[102, 111, 114, 103, 111, 116]⟩ : ByteArray) 0 a0_0 a0_1 l0_2 l0_3 l0_4) else (some (⟨#[]⟩ : ByteArray))))
theorem cachepotref3_Line.mono_l : ∀ k, (∀ y0 y1 y2 y3 y4 y5 y6, LeO (cachepotref3_Line.l0 k y0 y1 y2 y3 y4 y5 y6) (cachepotref3_Line.l0 (k + 1) y0 y1 y2 y3 y4 y5 y6)) ∧ (∀ y0 y1 y2 y3 y4 y5 y6, LeO (cachepotref3_Line.l1 k y0 y1 y2 y3 y4 y5 y6) (cachepotref3_Line.l1 (k + 1) y0 y1 y2 y3 y4 y5 y6)) ∧ (∀ y0 y1 y2 y3 y4 y5 y6, LeO (cachepotref3_Line.l2 k y0 y1 y2 y3 y4 y5 y6) (cachepotref3_Line.l2 (k + 1) y0 y1 y2 y3 y4 y5 y6))
  | 0 => ⟨fun _ _ _ _ _ _ _ r h => by simp [cachepotref3_Line.l0] at h, fun _ _ _ _ _ _ _ r h => by simp [cachepotref3_Line.l1] at h, fun _ _ _ _ _ _ _ r h => by simp [cachepotref3_Line.l2] at h⟩
  | k + 1 => by
    obtain ⟨ih0, ih1, ih2⟩ := cachepotref3_Line.mono_l k
    refine ⟨?_, ?_, ?_⟩
    · intro y0 y1 y2 y3 y4 y5 y6
      unfold cachepotref3_Line.l0
      repeat' first
      | (with_reducible exact ih0 _ _ _ _ _ _ _)
      | (with_reducible exact ih1 _ _ _ _ _ _ _)
      | (with_reducible exact ih2 _ _ _ _ _ _ _)
      | (with_reducible exact cachepotref3_Digits.mono _ _)
      | (with_reducible exact LeO.refl _)
      | (with_reducible exact LeO.none _)
      | (with_reducible refine LeO.ite ?_ ?_)
      | (with_reducible refine LeO.bind ?_ (fun _ => ?_))
      | exact ih0 _ _ _ _ _ _ _
      | exact ih1 _ _ _ _ _ _ _
      | exact ih2 _ _ _ _ _ _ _
      | exact cachepotref3_Digits.mono _ _
      | exact LeO.none _
      | refine LeO.ite ?_ ?_
      | refine LeO.bind ?_ (fun _ => ?_)
    · intro y0 y1 y2 y3 y4 y5 y6
      unfold cachepotref3_Line.l1
      repeat' first
      | (with_reducible exact ih0 _ _ _ _ _ _ _)
      | (with_reducible exact ih1 _ _ _ _ _ _ _)
      | (with_reducible exact ih2 _ _ _ _ _ _ _)
      | (with_reducible exact cachepotref3_Digits.mono _ _)
      | (with_reducible exact LeO.refl _)
      | (with_reducible exact LeO.none _)
      | (with_reducible refine LeO.ite ?_ ?_)
      | (with_reducible refine LeO.bind ?_ (fun _ => ?_))
      | exact ih0 _ _ _ _ _ _ _
      | exact ih1 _ _ _ _ _ _ _
      | exact ih2 _ _ _ _ _ _ _
      | exact cachepotref3_Digits.mono _ _
      | exact LeO.none _
      | refine LeO.ite ?_ ?_
      | refine LeO.bind ?_ (fun _ => ?_)
    · intro y0 y1 y2 y3 y4 y5 y6
      unfold cachepotref3_Line.l2
      repeat' first
      | (with_reducible exact ih0 _ _ _ _ _ _ _)
      | (with_reducible exact ih1 _ _ _ _ _ _ _)
      | (with_reducible exact ih2 _ _ _ _ _ _ _)
      | (with_reducible exact cachepotref3_Digits.mono _ _)
      | (with_reducible exact LeO.refl _)
      | (with_reducible exact LeO.none _)
      | (with_reducible refine LeO.ite ?_ ?_)
      | (with_reducible refine LeO.bind ?_ (fun _ => ?_))
      | exact ih0 _ _ _ _ _ _ _
      | exact ih1 _ _ _ _ _ _ _
      | exact ih2 _ _ _ _ _ _ _
      | exact cachepotref3_Digits.mono _ _
      | exact LeO.none _
      | refine LeO.ite ?_ ?_
      | refine LeO.bind ?_ (fun _ => ?_)
theorem cachepotref3_Line.mono : ∀ a0 a1 a2 a3 a4 k, LeO (cachepotref3_Line.f k a0 a1 a2 a3 a4) (cachepotref3_Line.f (k + 1) a0 a1 a2 a3 a4) := by
  intro a0 a1 a2 a3 a4 k
  obtain ⟨ih0, ih1, ih2⟩ := cachepotref3_Line.mono_l k
  unfold cachepotref3_Line.f
  repeat' first
      | (with_reducible exact ih0 _ _ _ _ _ _ _)
      | (with_reducible exact ih1 _ _ _ _ _ _ _)
      | (with_reducible exact ih2 _ _ _ _ _ _ _)
      | (with_reducible exact cachepotref3_Digits.mono _ _)
      | (with_reducible exact LeO.refl _)
      | (with_reducible exact LeO.none _)
      | (with_reducible refine LeO.ite ?_ ?_)
      | (with_reducible refine LeO.bind ?_ (fun _ => ?_))
      | exact ih0 _ _ _ _ _ _ _
      | exact ih1 _ _ _ _ _ _ _
      | exact ih2 _ _ _ _ _ _ _
      | exact cachepotref3_Digits.mono _ _
      | exact LeO.none _
      | refine LeO.ite ?_ ?_
      | refine LeO.bind ?_ (fun _ => ?_)
def cachepotref3_Line.T10 : Bool × List (List Nat × List Nat) := (true, [([], []), ([], []), ([1], [1]), ([], []), ([2, 3], [2, 3]), ([4], [4]), ([5], [5]), ([6], [6]), ([7], [7]), ([8], [8]), ([], []), ([10], [10]), ([], []), ([11, 12], [11, 12]), ([13], [13]), ([14], [14]), ([15, 7], [15]), ([9, 16], [9, 16]), ([0, 17], [0, 17]), ([18, 16, 0, 1, 2, 3, 4, 5, 6, 7, 8, 9, 10, 11, 12, 13, 14, 15, 16, 17, 18], [0, 18])])
def cachepotref3_Line.B10 : List Nat := [0, 0, 2, 0, 14, 30, 62, 126, 254, 510, 0, 1024, 0, 7168, 15360, 31744, 64766, 131070, 262143, 524287]
theorem cachepotref3_Line.tab10 : rtab .any (opsOf Tryd.f33 10) = cachepotref3_Line.T10 := by kernel_rfl
theorem cachepotref3_Line.bits10 : waitsOk cachepotref3_Line.T10.2 cachepotref3_Line.B10 = true := by kernel_rfl
def cachepotref3_Line.T17 : Bool × List (List Nat × List Nat) := (true, [([], []), ([], []), ([1], [1]), ([], []), ([2, 3], [2, 3]), ([4], [4]), ([5], [5]), ([6], [6]), ([7], [7]), ([8], [8]), ([], []), ([10], [10]), ([], []), ([11, 12], [11, 12]), ([13], [13]), ([14], [14]), ([15, 7], [15]), ([9, 16], [9, 16]), ([17], [17]), ([], []), ([19], [19]), ([], []), ([20, 21], [20, 21]), ([22], [22]), ([23], [23]), ([24], [24]), ([25, 16], [25]), ([18, 26], [18, 26]), ([0, 27], [0, 27]), ([28, 26, 0, 1, 2, 3, 4, 5, 6, 7, 8, 9, 10, 11, 12, 13, 14, 15, 16, 17, 18, 19, 20, 21, 22, 23, 24, 25, 26, 27, 28], [0, 28])])
def cachepotref3_Line.B17 : List Nat := [0, 0, 2, 0, 14, 30, 62, 126, 254, 510, 0, 1024, 0, 7168, 15360, 31744, 64766, 131070, 262142, 0, 524288, 0, 3670016, 7864320, 16252928, 33030144, 66714878, 134217726, 268435455, 536870911]
theorem cachepotref3_Line.tab17 : rtab .any (opsOf Tryd.f33 17) = cachepotref3_Line.T17 := by kernel_rfl
theorem cachepotref3_Line.bits17 : waitsOk cachepotref3_Line.T17.2 cachepotref3_Line.B17 = true := by kernel_rfl
set_option maxHeartbeats 8000000 in
set_option maxRecDepth 100000 in
theorem cachepotref3_Line.calls (k : Nat) (a0_0 : Int) (a0_1 : Int) (A0_2 : Option Addr) (c0_2 : Nat) (l0_2 : List (S101)) (A0_3 : Option Addr) (c0_3 : Nat) (l0_3 : List (S98)) (A0_4 : Option Addr) (c0_4 : Nat) (l0_4 : List ByteArray) (r : ByteArray) (w : World) (hr0_2 : Kd.C k101 w A0_2 l0_2.length l0_2) (hc0_2 : l0_2.length ≤ c0_2) (hr0_3 : Kd.C k98 w A0_3 l0_3.length l0_3) (hc0_3 : l0_3.length ≤ c0_3) (hr0_4 : Kd.C Kd.string w A0_4 l0_4.length l0_4) (hc0_4 : l0_4.length ≤ c0_4) (h : cachepotref3_Line.f k a0_0 a0_1 l0_2 l0_3 l0_4 = some r) :
    Calls Tryd.prog 33 #[.agg #[.int .i64 a0_0, .int .u32 a0_1, .slice A0_2 l0_2.length c0_2, .slice A0_3 l0_3.length c0_3, .slice A0_4 l0_4.length c0_4]] w fun e w' => e = .returned (.string r) ∧ Below w.heap.size w w' := by
  have hu43 := Tryd.underlying43
  have HR0_2 := Aside0.mk hr0_2
  have HC0_2 := Aside0.mk hc0_2
  clear hr0_2 hc0_2
  have HR0_3 := Aside0.mk hr0_3
  have HC0_3 := Aside0.mk hc0_3
  clear hr0_3 hc0_3
  have HR0_4 := Aside0.mk hr0_4
  have HC0_4 := Aside0.mk hc0_4
  clear hr0_4 hc0_4
  have HB := Aside0.mk (Below.refl w.heap.size w)
  have H : (if a0_0 = 1 then ((cachepotref3_Digits.f k (wrap64 (a0_1))).bind fun t159 => (if 7 + t159.size ≤ 9223372036854775807 then (cachepotref3_Line.l0 k ((⟨#[99, 111, 109, 109, 105, 116, 32]⟩ : ByteArray) ++ t159) 0 a0_0 a0_1 l0_2 l0_3 l0_4) else (none))) else (if a0_0 = 2 then (cachepotref3_Line.l1 k (⟨#[103, 111, 116]⟩ : ByteArray) 0 a0_0 a0_1 l0_2 l0_3 l0_4) else (if a0_0 = 3 then (cachepotref3_Line.l2 k (⟨#[102, 111, 114, 103, 111, 116]⟩ : ByteArray) 0 a0_0 a0_1 l0_2 l0_3 l0_4) else (some (⟨#[]⟩ : ByteArray))))) = some r := h
  clear h
  by_cases c2 : a0_0 = 1
  · rw [if_pos c2] at H
    have c2b0 : (a0_0 == 1) = true := beq_iff_eq.mpr c2
    have c2b1 : (a0_0 != 1) = false := bne_eq_false_iff_eq.mpr c2
    clear c2
    replace H := Option.bind_eq_some_iff.mp H
    obtain ⟨t159, A30, H⟩ := H
    replace H : (if 7 + t159.size ≤ 9223372036854775807 then (cachepotref3_Line.l0 k ((⟨#[99, 111, 109, 109, 105, 116, 32]⟩ : ByteArray) ++ t159) 0 a0_0 a0_1 l0_2 l0_3 l0_4) else (none)) = some r := H
    have A3 := Aside0.mk A30
    clear A30
    by_cases c4 : 7 + t159.size ≤ 9223372036854775807
    · rw [if_pos c4] at H
      have c4b0 := eq_true c4
      have c4b1 : decide (7 + t159.size ≤ 9223372036854775807) = true := decide_eq_true c4
      try have c4b2 : (9223372036854775807 < 7 + t159.size) = False := eq_false (Nat.not_lt.2 c4)
      have H' := Aside0.mk H
      clear H
      go_enter Tryd.func33, Tryd.ntmps33
      go_wp2_with (first | ((with_reducible refine gate_dst (N := 1) rfl ?_); refine box_event ?hg (N := 1) ?hd (cs := #[.int .i64 a0_0, .int .u32 a0_1, .slice A0_2 l0_2.length c0_2, .slice A0_3 l0_3.length c0_3, .slice A0_4 l0_4.length c0_4]) (t := 43) ?hr ?_; (case hd => rfl); (case hg => rfl); (case hr => first | (go_simp; done) | (go_simp; rfl)); intro gb158 hg w5 hbox hb; have n0_ := Aside0.mk (below_step (by repeat (first | (with_reducible first | exact HB.out | apply below_alloc | apply pw_below_drewN | apply below_drew1) | exact HB.out)) hb); have n1_ := Aside0.mk (hbox); have n2_ := Aside0.mk ((by rw [hg]; exact (below_size (by repeat (first | (with_reducible first | exact HB.out | apply below_alloc | apply pw_below_drewN | apply below_drew1) | exact HB.out))) : w.heap.size ≤ gb158)); have n3_ := Aside0.mk ((by rw [hg]; exact (below_size (by repeat (first | (with_reducible first | exact HB.out | apply below_alloc | apply pw_below_drewN | apply below_drew1) | exact HB.out))) : w.heap.size ≤ gb158)); clear HB; have HB := n0_; have BK158 := n1_; have GW158 := n2_; have GE158 := n3_; clear n0_ n1_ n2_ n3_; clear hb hbox hg; have hcz6_0 : w5.cell? ⟨gb158, 0, none⟩ = some (.int .i64 a0_0) := (blk_cell BK158.out 0).trans rfl; have hcz6_1 : w5.cell? ⟨gb158, 1, none⟩ = some (.int .u32 a0_1) := (blk_cell BK158.out 1).trans rfl; have hcz6_2 : w5.cell? ⟨gb158, 2, none⟩ = some (.slice A0_2 l0_2.length c0_2) := (blk_cell BK158.out 2).trans rfl; have hcz6_3 : w5.cell? ⟨gb158, 3, none⟩ = some (.slice A0_3 l0_3.length c0_3) := (blk_cell BK158.out 3).trans rfl; have hcz6_4 : w5.cell? ⟨gb158, 4, none⟩ = some (.slice A0_4 l0_4.length c0_4) := (blk_cell BK158.out 4).trans rfl; have hfz6_0 := blk_frozen BK158.out 0; have hfz6_1 := blk_frozen BK158.out 1; have hfz6_2 := blk_frozen BK158.out 2; have hfz6_3 := blk_frozen BK158.out 3; have hfz6_4 := blk_frozen BK158.out 4) | ((with_reducible refine gate_callee (f := 51) rfl ?_); refine goesL_ (some 14) rfl rfl Tryd.func51 (by kernel_rfl) rfl #[.int .i64 (wrap64 (a0_1))] rfl (by (try simp only [List.map_toArray, List.map_cons, List.map_nil]); first | done | rfl | (simp only [List.length_drop, List.length_take]; rfl)) ?_; (with_reducible refine (cachepotref3_Digits.calls k (wrap64 (a0_1)) t159 _ A3.out).mono ?_); rintro e w7 ⟨rfl, hb⟩; refine ⟨_, rfl, ?_⟩; have n0_ := Aside0.mk (blk_below (g := gb158) (o := .cells #[.int .i64 a0_0, .int .u32 a0_1, .slice A0_2 l0_2.length c0_2, .slice A0_3 l0_3.length c0_3, .slice A0_4 l0_4.length c0_4] 43 (0, 0)) (by (with_reducible repeat (first | refine blk_drewN ?_ _ | refine blk_drew ?_ | refine blk_alloc ?_ _)); exact BK158.out) hb); have n1_ := Aside0.mk (below_step (by repeat (first | (with_reducible first | exact HB.out | apply below_alloc | apply pw_below_drewN | apply below_drew1 | refine below_set ?_ GE158.out) | exact HB.out)) hb); clear BK158; clear HB; have BK158 := n0_; have HB := n1_; clear n0_ n1_; (try clear hb); (try clear hb2); (try clear hk); (try clear hi)))
      go_loopg [3, 4] k (fun kq v3 v4 w' => ∃ (x3_1 : ByteArray) (x4_1 : Int), v3 = .string x3_1 ∧ v4 = .int .i64 x4_1 ∧ Aside0 (cachepotref3_Line.l0 kq x3_1 x4_1 a0_0 a0_1 l0_2 l0_3 l0_4 = some r) ∧ Aside0 (kq ≤ k) ∧ Aside0 (w'.heap[gb158]? = some (.cells #[.int .i64 a0_0, .int .u32 a0_1, (.slice A0_2 l0_2.length c0_2), (.slice A0_3 l0_3.length c0_3), (.slice A0_4 l0_4.length c0_4)] 43 (0, 0))) ∧ Aside0 (Below w.heap.size w w'))
      case atStart => exact ⟨((⟨#[99, 111, 109, 109, 105, 116, 32]⟩ : ByteArray) ++ t159), (0), (by first | rfl | (simp; done) | (simp [*]; done)), (by first | rfl | (simp; done) | (simp [*]; done)), H', ⟨Nat.le_refl _⟩, ⟨by (with_reducible repeat (first | refine blk_drewN ?_ _ | refine blk_drew ?_ | refine blk_alloc ?_ _)); exact BK158.out⟩, ⟨by repeat (first | (with_reducible first | exact HB.out | apply below_alloc | apply pw_below_drewN | apply below_drew1 | refine below_set ?_ GE158.out) | exact HB.out)⟩⟩
      case round =>
        clear H'
        try clear c2
        try clear c2b0
        try clear c2b1
        try clear p2
        try clear c3
        try clear c4
        try clear c4b0
        try clear c4b1
        try clear c4b2
        try clear c5
        try clear p6
        try clear hcz6_0
        try clear hcz6_1
        try clear hcz6_2
        try clear hcz6_3
        try clear hcz6_4
        try clear hfz6_0
        try clear hfz6_1
        try clear hfz6_2
        try clear hfz6_3
        try clear hfz6_4
        obtain ⟨x3_1, x4_1, rfl, rfl, HA, HK1, BK158, HB⟩ := hrel
        cases gk with
        | zero => exact absurd HA.out (by simp [cachepotref3_Line.l0])
        | succ k1 =>
          have H := HA.out
          clear HA
          simp only [cachepotref3_Line.l0] at H
          by_cases c8 : x4_1 < (l0_2.length : Int)
          · rw [if_pos c8] at H
            have c8b0 : decide (x4_1 < (l0_2.length : Int)) = true := decide_eq_true c8
            clear c8
            by_cases c9 : 0 ≤ x4_1
            · rw [if_pos c9] at H
              have c9b0 : decide (0 ≤ x4_1) = true := decide_eq_true c9
              clear c9
              obtain ⟨bq10, hbq10⟩ : ∃ b_ : Bool, b_ = ((rd_T101 l0_2 x4_1).f1) := ⟨_, rfl⟩
              replace H : (if bq10 = true then ((cachepotref3_Hex.f ((rd_T101 l0_2 x4_1).f0)).bind fun t162 => (if 1 + t162.size ≤ 9223372036854775807 then (if ((⟨#[32]⟩ : ByteArray) ++ t162).size + 1 ≤ 9223372036854775807 then (if x3_1.size + (((⟨#[32]⟩ : ByteArray) ++ t162) ++ (⟨#[33]⟩ : ByteArray)).size ≤ 9223372036854775807 then (cachepotref3_Line.l0 k1 (x3_1 ++ (((⟨#[32]⟩ : ByteArray) ++ t162) ++ (⟨#[33]⟩ : ByteArray))) (wrap64 (x4_1 + 1)) a0_0 a0_1 l0_2 l0_3 l0_4) else (none)) else (none)) else (none))) else ((cachepotref3_Hex.f ((rd_T101 l0_2 x4_1).f0)).bind fun t164 => (if 1 + t164.size ≤ 9223372036854775807 then (if ((⟨#[32]⟩ : ByteArray) ++ t164).size + 1 ≤ 9223372036854775807 then ((cachepotref3_Hex.f ((rd_T101 l0_2 x4_1).f2)).bind fun t166 => (if (((⟨#[32]⟩ : ByteArray) ++ t164) ++ (⟨#[61]⟩ : ByteArray)).size + t166.size ≤ 9223372036854775807 then (if x3_1.size + ((((⟨#[32]⟩ : ByteArray) ++ t164) ++ (⟨#[61]⟩ : ByteArray)) ++ t166).size ≤ 9223372036854775807 then (cachepotref3_Line.l0 k1 (x3_1 ++ ((((⟨#[32]⟩ : ByteArray) ++ t164) ++ (⟨#[61]⟩ : ByteArray)) ++ t166)) (wrap64 (x4_1 + 1)) a0_0 a0_1 l0_2 l0_3 l0_4) else (none)) else (none))) else (none)) else (none)))) = some r := by rw [← hbq10] at H; exact H
              have Nbq10 := Aside0.mk hbq10
              clear hbq10
              by_cases c11 : bq10 = true
              · subst c11
                have H1 : ((cachepotref3_Hex.f ((rd_T101 l0_2 x4_1).f0)).bind fun t162 => (if 1 + t162.size ≤ 9223372036854775807 then (if ((⟨#[32]⟩ : ByteArray) ++ t162).size + 1 ≤ 9223372036854775807 then (if x3_1.size + (((⟨#[32]⟩ : ByteArray) ++ t162) ++ (⟨#[33]⟩ : ByteArray)).size ≤ 9223372036854775807 then (cachepotref3_Line.l0 k1 (x3_1 ++ (((⟨#[32]⟩ : ByteArray) ++ t162) ++ (⟨#[33]⟩ : ByteArray))) (wrap64 (x4_1 + 1)) a0_0 a0_1 l0_2 l0_3 l0_4) else (none)) else (none)) else (none))) = some r := by rw [if_pos rfl] at H; exact H
                clear H
                have H := H1
                clear H1
                replace H := Option.bind_eq_some_iff.mp H
                obtain ⟨t162, A120, H⟩ := H
                replace H : (if 1 + t162.size ≤ 9223372036854775807 then (if ((⟨#[32]⟩ : ByteArray) ++ t162).size + 1 ≤ 9223372036854775807 then (if x3_1.size + (((⟨#[32]⟩ : ByteArray) ++ t162) ++ (⟨#[33]⟩ : ByteArray)).size ≤ 9223372036854775807 then (cachepotref3_Line.l0 k1 (x3_1 ++ (((⟨#[32]⟩ : ByteArray) ++ t162) ++ (⟨#[33]⟩ : ByteArray))) (wrap64 (x4_1 + 1)) a0_0 a0_1 l0_2 l0_3 l0_4) else (none)) else (none)) else (none)) = some r := H
                have A12 := Aside0.mk A120
                clear A120
                by_cases c13 : 1 + t162.size ≤ 9223372036854775807
                · rw [if_pos c13] at H
                  have c13b0 := eq_true c13
                  have c13b1 : decide (1 + t162.size ≤ 9223372036854775807) = true := decide_eq_true c13
                  try have c13b2 : (9223372036854775807 < 1 + t162.size) = False := eq_false (Nat.not_lt.2 c13)
                  by_cases c14 : ((⟨#[32]⟩ : ByteArray) ++ t162).size + 1 ≤ 9223372036854775807
                  · rw [if_pos c14] at H
                    have c14b0 := eq_true c14
                    have c14b1 : decide (((⟨#[32]⟩ : ByteArray) ++ t162).size + 1 ≤ 9223372036854775807) = true := decide_eq_true c14
                    try have c14b2 : (9223372036854775807 < ((⟨#[32]⟩ : ByteArray) ++ t162).size + 1) = False := eq_false (Nat.not_lt.2 c14)
                    try have c14b9 : (9223372036854775807 < 1 + t162.size + 1) = False := by (have h_ := c14b2; rw [ByteArray.size_append] at h_; exact h_)
                    by_cases c15 : x3_1.size + (((⟨#[32]⟩ : ByteArray) ++ t162) ++ (⟨#[33]⟩ : ByteArray)).size ≤ 9223372036854775807
                    · rw [if_pos c15] at H
                      have c15b0 := eq_true c15
                      have c15b1 : decide (x3_1.size + (((⟨#[32]⟩ : ByteArray) ++ t162) ++ (⟨#[33]⟩ : ByteArray)).size ≤ 9223372036854775807) = true := decide_eq_true c15
                      try have c15b2 : (9223372036854775807 < x3_1.size + (((⟨#[32]⟩ : ByteArray) ++ t162) ++ (⟨#[33]⟩ : ByteArray)).size) = False := eq_false (Nat.not_lt.2 c15)
                      try have c15b9 : (9223372036854775807 < x3_1.size + (1 + t162.size + 1)) = False := by (have h_ := c15b2; rw [ByteArray.size_append] at h_; rw [ByteArray.size_append] at h_; exact h_)
                      have H' := Aside0.mk H
                      clear H
                      have hcz16_0 : wr.cell? ⟨gb158, 0, none⟩ = some (.int .i64 a0_0) := (blk_cell BK158.out 0).trans rfl
                      have hcz16_1 : wr.cell? ⟨gb158, 1, none⟩ = some (.int .u32 a0_1) := (blk_cell BK158.out 1).trans rfl
                      have hcz16_2 : wr.cell? ⟨gb158, 2, none⟩ = some (.slice A0_2 l0_2.length c0_2) := (blk_cell BK158.out 2).trans rfl
                      have hcz16_3 : wr.cell? ⟨gb158, 3, none⟩ = some (.slice A0_3 l0_3.length c0_3) := (blk_cell BK158.out 3).trans rfl
                      have hcz16_4 : wr.cell? ⟨gb158, 4, none⟩ = some (.slice A0_4 l0_4.length c0_4) := (blk_cell BK158.out 4).trans rfl
                      have hfz16_0 := blk_frozen BK158.out 0
                      have hfz16_1 := blk_frozen BK158.out 1
                      have hfz16_2 := blk_frozen BK158.out 2
                      have hfz16_3 := blk_frozen BK158.out 3
                      have hfz16_4 := blk_frozen BK158.out 4
                      have p160 : 0 ≤ (x4_1 : Int) := of_decide_eq_true (by first | (with_reducible assumption) | assumption)
                      have q160 : x4_1 < (l0_2.length : Int) := of_decide_eq_true (by first | (with_reducible assumption) | assumption)
                      obtain ⟨ad160, e160, hx160_0, hx160_1, hx160_2⟩ := at_T101 HR0_2.out x4_1 p160 q160
                      (try rw [← Nbq10.out] at hx160_1)
                      (try rw [← Nbq10.out] at hw160_1)
                      cases e160
                      replace hx160_0 := (HB.out.cell (World.block_lt_of_cell? w _ hx160_0)).trans hx160_0
                      replace hx160_1 := (HB.out.cell (World.block_lt_of_cell? w _ hx160_1)).trans hx160_1
                      replace hx160_2 := (HB.out.cell (World.block_lt_of_cell? w _ hx160_2)).trans hx160_2
                      replace p160 := eq_true p160
                      replace q160 := eq_true q160
                      have p161 : 0 ≤ (x4_1 : Int) := of_decide_eq_true (by first | (with_reducible assumption) | assumption)
                      have q161 : x4_1 < (l0_2.length : Int) := of_decide_eq_true (by first | (with_reducible assumption) | assumption)
                      obtain ⟨ad161, e161, hx161_0, hx161_1, hx161_2⟩ := at_T101 HR0_2.out x4_1 p161 q161
                      (try rw [← Nbq10.out] at hx161_1)
                      (try rw [← Nbq10.out] at hw161_1)
                      obtain rfl : ad160 = ad161 := (by injection e161)
                      replace hx161_0 := (HB.out.cell (World.block_lt_of_cell? w _ hx161_0)).trans hx161_0
                      replace hx161_1 := (HB.out.cell (World.block_lt_of_cell? w _ hx161_1)).trans hx161_1
                      replace hx161_2 := (HB.out.cell (World.block_lt_of_cell? w _ hx161_2)).trans hx161_2
                      replace p161 := eq_true p161
                      replace q161 := eq_true q161
                      go_wp2_with (first | ((with_reducible refine gate_callee (f := 61) rfl ?_); refine goesL_ (some 36) rfl rfl Tryd.func61 (by kernel_rfl) rfl #[.string ((rd_T101 l0_2 x4_1).f0)] rfl (by (try simp only [List.map_toArray, List.map_cons, List.map_nil]); first | done | rfl | (simp only [List.length_drop, List.length_take]; rfl)) ?_; (with_reducible refine (cachepotref3_Hex.calls ((rd_T101 l0_2 x4_1).f0) t162 _ A12.out).mono ?_); rintro e w17 ⟨rfl, hb⟩; refine ⟨_, rfl, ?_⟩; have n0_ := Aside0.mk (blk_below (g := gb158) (o := .cells #[.int .i64 a0_0, .int .u32 a0_1, .slice (some ad160) l0_2.length c0_2, .slice A0_3 l0_3.length c0_3, .slice A0_4 l0_4.length c0_4] 43 (0, 0)) (by (with_reducible repeat (first | refine blk_drewN ?_ _ | refine blk_drew ?_ | refine blk_alloc ?_ _)); exact BK158.out) hb); have n1_ := Aside0.mk (below_step (by repeat (first | (with_reducible first | exact HB.out | apply below_alloc | apply pw_below_drewN | apply below_drew1 | refine below_set ?_ GE158.out) | exact HB.out)) hb); clear BK158; clear HB; have BK158 := n0_; have HB := n1_; clear n0_ n1_; (try clear hb); (try clear hb2); (try clear hk); (try clear hi)))
                      go_roundg k1
                      case measure => have := HK1.out; omega
                      case rel => exact ⟨(x3_1 ++ (((⟨#[32]⟩ : ByteArray) ++ t162) ++ (⟨#[33]⟩ : ByteArray))), (wrap64 (x4_1 + 1)), (by first | rfl | (simp; done) | (simp [*]; done)), (by first | rfl | (simp; done) | (simp [*]; done)), H', ⟨by have := HK1.out; omega⟩, ⟨by (with_reducible repeat (first | refine blk_drewN ?_ _ | refine blk_drew ?_ | refine blk_alloc ?_ _)); exact BK158.out⟩, ⟨by repeat (first | (with_reducible first | exact HB.out | apply below_alloc | apply pw_below_drewN | apply below_drew1 | refine below_set ?_ GE158.out) | exact HB.out)⟩⟩
                    · rw [if_neg c15] at H
                      exact absurd H (by simp)
                  · rw [if_neg c14] at H
                    exact absurd H (by simp)
                · rw [if_neg c13] at H
                  exact absurd H (by simp)
              · replace c11 := Bool.eq_false_iff.mpr c11
                subst c11
                have H1 : ((cachepotref3_Hex.f ((rd_T101 l0_2 x4_1).f0)).bind fun t164 => (if 1 + t164.size ≤ 9223372036854775807 then (if ((⟨#[32]⟩ : ByteArray) ++ t164).size + 1 ≤ 9223372036854775807 then ((cachepotref3_Hex.f ((rd_T101 l0_2 x4_1).f2)).bind fun t166 => (if (((⟨#[32]⟩ : ByteArray) ++ t164) ++ (⟨#[61]⟩ : ByteArray)).size + t166.size ≤ 9223372036854775807 then (if x3_1.size + ((((⟨#[32]⟩ : ByteArray) ++ t164) ++ (⟨#[61]⟩ : ByteArray)) ++ t166).size ≤ 9223372036854775807 then (cachepotref3_Line.l0 k1 (x3_1 ++ ((((⟨#[32]⟩ : ByteArray) ++ t164) ++ (⟨#[61]⟩ : ByteArray)) ++ t166)) (wrap64 (x4_1 + 1)) a0_0 a0_1 l0_2 l0_3 l0_4) else (none)) else (none))) else (none)) else (none))) = some r := by rw [if_neg (show ¬ (false = true) by decide)] at H; exact H
                clear H
                have H := H1
                clear H1
                replace H := Option.bind_eq_some_iff.mp H
                obtain ⟨t164, A180, H⟩ := H
                replace H : (if 1 + t164.size ≤ 9223372036854775807 then (if ((⟨#[32]⟩ : ByteArray) ++ t164).size + 1 ≤ 9223372036854775807 then ((cachepotref3_Hex.f ((rd_T101 l0_2 x4_1).f2)).bind fun t166 => (if (((⟨#[32]⟩ : ByteArray) ++ t164) ++ (⟨#[61]⟩ : ByteArray)).size + t166.size ≤ 9223372036854775807 then (if x3_1.size + ((((⟨#[32]⟩ : ByteArray) ++ t164) ++ (⟨#[61]⟩ : ByteArray)) ++ t166).size ≤ 9223372036854775807 then (cachepotref3_Line.l0 k1 (x3_1 ++ ((((⟨#[32]⟩ : ByteArray) ++ t164) ++ (⟨#[61]⟩ : ByteArray)) ++ t166)) (wrap64 (x4_1 + 1)) a0_0 a0_1 l0_2 l0_3 l0_4) else (none)) else (none))) else (none)) else (none)) = some r := H
                have A18 := Aside0.mk A180
                clear A180
                by_cases c19 : 1 + t164.size ≤ 9223372036854775807
                · rw [if_pos c19] at H
                  have c19b0 := eq_true c19
                  have c19b1 : decide (1 + t164.size ≤ 9223372036854775807) = true := decide_eq_true c19
                  try have c19b2 : (9223372036854775807 < 1 + t164.size) = False := eq_false (Nat.not_lt.2 c19)
                  by_cases c20 : ((⟨#[32]⟩ : ByteArray) ++ t164).size + 1 ≤ 9223372036854775807
                  · rw [if_pos c20] at H
                    have c20b0 := eq_true c20
                    have c20b1 : decide (((⟨#[32]⟩ : ByteArray) ++ t164).size + 1 ≤ 9223372036854775807) = true := decide_eq_true c20
                    try have c20b2 : (9223372036854775807 < ((⟨#[32]⟩ : ByteArray) ++ t164).size + 1) = False := eq_false (Nat.not_lt.2 c20)
                    try have c20b9 : (9223372036854775807 < 1 + t164.size + 1) = False := by (have h_ := c20b2; rw [ByteArray.size_append] at h_; exact h_)
                    replace H := Option.bind_eq_some_iff.mp H
                    obtain ⟨t166, A210, H⟩ := H
                    replace H : (if (((⟨#[32]⟩ : ByteArray) ++ t164) ++ (⟨#[61]⟩ : ByteArray)).size + t166.size ≤ 9223372036854775807 then (if x3_1.size + ((((⟨#[32]⟩ : ByteArray) ++ t164) ++ (⟨#[61]⟩ : ByteArray)) ++ t166).size ≤ 9223372036854775807 then (cachepotref3_Line.l0 k1 (x3_1 ++ ((((⟨#[32]⟩ : ByteArray) ++ t164) ++ (⟨#[61]⟩ : ByteArray)) ++ t166)) (wrap64 (x4_1 + 1)) a0_0 a0_1 l0_2 l0_3 l0_4) else (none)) else (none)) = some r := H
                    have A21 := Aside0.mk A210
                    clear A210
                    by_cases c22 : (((⟨#[32]⟩ : ByteArray) ++ t164) ++ (⟨#[61]⟩ : ByteArray)).size + t166.size ≤ 9223372036854775807
                    · rw [if_pos c22] at H
                      have c22b0 := eq_true c22
                      have c22b1 : decide ((((⟨#[32]⟩ : ByteArray) ++ t164) ++ (⟨#[61]⟩ : ByteArray)).size + t166.size ≤ 9223372036854775807) = true := decide_eq_true c22
                      try have c22b2 : (9223372036854775807 < (((⟨#[32]⟩ : ByteArray) ++ t164) ++ (⟨#[61]⟩ : ByteArray)).size + t166.size) = False := eq_false (Nat.not_lt.2 c22)
                      try have c22b9 : (9223372036854775807 < 1 + t164.size + 1 + t166.size) = False := by (have h_ := c22b2; rw [ByteArray.size_append] at h_; rw [ByteArray.size_append] at h_; exact h_)
                      by_cases c23 : x3_1.size + ((((⟨#[32]⟩ : ByteArray) ++ t164) ++ (⟨#[61]⟩ : ByteArray)) ++ t166).size ≤ 9223372036854775807
                      · rw [if_pos c23] at H
                        have c23b0 := eq_true c23
                        have c23b1 : decide (x3_1.size + ((((⟨#[32]⟩ : ByteArray) ++ t164) ++ (⟨#[61]⟩ : ByteArray)) ++ t166).size ≤ 9223372036854775807) = true := decide_eq_true c23
                        try have c23b2 : (9223372036854775807 < x3_1.size + ((((⟨#[32]⟩ : ByteArray) ++ t164) ++ (⟨#[61]⟩ : ByteArray)) ++ t166).size) = False := eq_false (Nat.not_lt.2 c23)
                        try have c23b9 : (9223372036854775807 < x3_1.size + (1 + t164.size + 1 + t166.size)) = False := by (have h_ := c23b2; rw [ByteArray.size_append] at h_; rw [ByteArray.size_append] at h_; rw [ByteArray.size_append] at h_; exact h_)
                        have H' := Aside0.mk H
                        clear H
                        have hcz24_0 : wr.cell? ⟨gb158, 0, none⟩ = some (.int .i64 a0_0) := (blk_cell BK158.out 0).trans rfl
                        have hcz24_1 : wr.cell? ⟨gb158, 1, none⟩ = some (.int .u32 a0_1) := (blk_cell BK158.out 1).trans rfl
                        have hcz24_2 : wr.cell? ⟨gb158, 2, none⟩ = some (.slice A0_2 l0_2.length c0_2) := (blk_cell BK158.out 2).trans rfl
                        have hcz24_3 : wr.cell? ⟨gb158, 3, none⟩ = some (.slice A0_3 l0_3.length c0_3) := (blk_cell BK158.out 3).trans rfl
                        have hcz24_4 : wr.cell? ⟨gb158, 4, none⟩ = some (.slice A0_4 l0_4.length c0_4) := (blk_cell BK158.out 4).trans rfl
                        have hfz24_0 := blk_frozen BK158.out 0
                        have hfz24_1 := blk_frozen BK158.out 1
                        have hfz24_2 := blk_frozen BK158.out 2
                        have hfz24_3 := blk_frozen BK158.out 3
                        have hfz24_4 := blk_frozen BK158.out 4
                        have p160 : 0 ≤ (x4_1 : Int) := of_decide_eq_true (by first | (with_reducible assumption) | assumption)
                        have q160 : x4_1 < (l0_2.length : Int) := of_decide_eq_true (by first | (with_reducible assumption) | assumption)
                        obtain ⟨ad160, e160, hx160_0, hx160_1, hx160_2⟩ := at_T101 HR0_2.out x4_1 p160 q160
                        (try rw [← Nbq10.out] at hx160_1)
                        (try rw [← Nbq10.out] at hw160_1)
                        cases e160
                        replace hx160_0 := (HB.out.cell (World.block_lt_of_cell? w _ hx160_0)).trans hx160_0
                        replace hx160_1 := (HB.out.cell (World.block_lt_of_cell? w _ hx160_1)).trans hx160_1
                        replace hx160_2 := (HB.out.cell (World.block_lt_of_cell? w _ hx160_2)).trans hx160_2
                        replace p160 := eq_true p160
                        replace q160 := eq_true q160
                        try go_wp2
                        have n0_ := Aside0.mk (blk_drew BK158.out)
                        have n1_ := Aside0.mk (below_drew1 HB.out)
                        clear BK158
                        clear HB
                        have BK158 := n0_
                        have HB := n1_
                        clear n0_ n1_
                        have p163 : 0 ≤ (x4_1 : Int) := of_decide_eq_true (by first | (with_reducible assumption) | assumption)
                        have q163 : x4_1 < (l0_2.length : Int) := of_decide_eq_true (by first | (with_reducible assumption) | assumption)
                        obtain ⟨ad163, e163, hx163_0, hx163_1, hx163_2⟩ := at_T101 HR0_2.out x4_1 p163 q163
                        have hw163_2 := hx163_2
                        have hw163_1 := hx163_1
                        have hw163_0 := hx163_0
                        (try rw [← Nbq10.out] at hx163_1)
                        (try rw [← Nbq10.out] at hw163_1)
                        obtain rfl : ad160 = ad163 := (by injection e163)
                        replace hx163_0 := (HB.out.cell (World.block_lt_of_cell? w _ hx163_0)).trans hx163_0
                        replace hx163_1 := (HB.out.cell (World.block_lt_of_cell? w _ hx163_1)).trans hx163_1
                        replace hx163_2 := (HB.out.cell (World.block_lt_of_cell? w _ hx163_2)).trans hx163_2
                        replace p163 := eq_true p163
                        replace q163 := eq_true q163
                        have p165 : 0 ≤ (x4_1 : Int) := of_decide_eq_true (by first | (with_reducible assumption) | assumption)
                        have q165 : x4_1 < (l0_2.length : Int) := of_decide_eq_true (by first | (with_reducible assumption) | assumption)
                        obtain ⟨ad165, e165, hx165_0, hx165_1, hx165_2⟩ := at_T101 HR0_2.out x4_1 p165 q165
                        have hw165_2 := hx165_2
                        have hw165_1 := hx165_1
                        have hw165_0 := hx165_0
                        (try rw [← Nbq10.out] at hx165_1)
                        (try rw [← Nbq10.out] at hw165_1)
                        obtain rfl : ad160 = ad165 := (by injection e165)
                        replace hx165_0 := (HB.out.cell (World.block_lt_of_cell? w _ hx165_0)).trans hx165_0
                        replace hx165_1 := (HB.out.cell (World.block_lt_of_cell? w _ hx165_1)).trans hx165_1
                        replace hx165_2 := (HB.out.cell (World.block_lt_of_cell? w _ hx165_2)).trans hx165_2
                        replace p165 := eq_true p165
                        replace q165 := eq_true q165
                        refine start_ (n := 20) (S := fun w' => w'.cell? ⟨gb158, 0, none⟩ = some (.int .i64 a0_0) ∧ w'.cell? ⟨gb158, 1, none⟩ = some (.int .u32 a0_1) ∧ w'.cell? ⟨gb158, 2, none⟩ = some (.slice (some ad160) l0_2.length c0_2) ∧ w'.cell? ⟨gb158, 3, none⟩ = some (.slice A0_3 l0_3.length c0_3) ∧ w'.cell? ⟨gb158, 4, none⟩ = some (.slice A0_4 l0_4.length c0_4) ∧ w'.cell? (ad160.add ((x4_1).toNat * 3)) = some (.string ((rd_T101 l0_2 x4_1).f0)) ∧ w'.cell? ⟨(ad160.add ((x4_1).toNat * 3)).block, (ad160.add ((x4_1).toNat * 3)).off + 1, none⟩ = some (.bool (false)) ∧ w'.cell? ⟨(ad160.add ((x4_1).toNat * 3)).block, (ad160.add ((x4_1).toNat * 3)).off + 2, none⟩ = some (.string ((rd_T101 l0_2 x4_1).f2)) ∧ w'.cell? (ad160.add ((x4_1).toNat * 3)) = some (.string ((rd_T101 l0_2 x4_1).f0)) ∧ w'.cell? ⟨(ad160.add ((x4_1).toNat * 3)).block, (ad160.add ((x4_1).toNat * 3)).off + 1, none⟩ = some (.bool (false)) ∧ w'.cell? ⟨(ad160.add ((x4_1).toNat * 3)).block, (ad160.add ((x4_1).toNat * 3)).off + 2, none⟩ = some (.string ((rd_T101 l0_2 x4_1).f2))) (ds := []) #[false, false, false, false, false, false, false, false, false, false, false, false, false, false, false, false, false, false, false, false] (by kernel_rfl) rfl rfl ⟨(blk_cell BK158.out 0).trans rfl, (blk_cell BK158.out 1).trans rfl, (blk_cell BK158.out 2).trans rfl, (blk_cell BK158.out 3).trans rfl, (blk_cell BK158.out 4).trans rfl, ((HB.out.cell (World.block_lt_of_cell? w _ hw163_0)).trans hw163_0), ((HB.out.cell (World.block_lt_of_cell? w _ hw163_1)).trans hw163_1), ((HB.out.cell (World.block_lt_of_cell? w _ hw163_2)).trans hw163_2), ((HB.out.cell (World.block_lt_of_cell? w _ hw165_0)).trans hw165_0), ((HB.out.cell (World.block_lt_of_cell? w _ hw165_1)).trans hw165_1), ((HB.out.cell (World.block_lt_of_cell? w _ hw165_2)).trans hw165_2)⟩ (fun hHeld => ?_); refine with_tabW cachepotref3_Line.tab10 cachepotref3_Line.bits10 (fun HT_ HW_ => ?_)
                        generalize wr.drew = w25 at BK158 HB hx163_0 hx163_1 hx163_2 hx165_0 hx165_1 hx165_2 hHeld ⊢
                        refine pure_ (i := 0) (N := some 40) (v := ?_) (a' := ?_) #[true, false, false, false, false, false, false, false, false, false, false, false, false, false, false, false, false, false, false, false] rfl rfl (any_of HT_.out (by kernel_rfl)) (fun _ _ _ h => h) (Or.inl ⟨by rfl, ?_⟩) ?_ ?_
                        rotate_left
                        · intro w'
                          go_simp
                          with_reducible rfl
                        rotate_left
                        · simp only [Act.put, List.setIfInBounds_toArray, List.set_cons_zero, List.set_cons_succ, i64_w, i32_w]
                          rfl
                        refine pure_ (i := 1) (N := some 41) (v := ?_) (a' := ?_) #[true, true, false, false, false, false, false, false, false, false, false, false, false, false, false, false, false, false, false, false] rfl rfl (any_of HT_.out (by kernel_rfl)) (fun _ _ _ h => h) (Or.inl ⟨by rfl, ?_⟩) ?_ ?_
                        rotate_left
                        · intro w'
                          go_simp
                          with_reducible rfl
                        rotate_left
                        · simp only [Act.put, List.setIfInBounds_toArray, List.set_cons_zero, List.set_cons_succ, i64_w, i32_w]
                          rfl
                        refine pure_ (i := 3) (N := some 43) (v := ?_) (a' := ?_) #[true, true, false, true, false, false, false, false, false, false, false, false, false, false, false, false, false, false, false, false] rfl rfl (any_of HT_.out (by kernel_rfl)) (fun _ _ _ h => h) (Or.inl ⟨by rfl, ?_⟩) ?_ ?_
                        rotate_left
                        · intro w'
                          go_simp
                          with_reducible rfl
                        rotate_left
                        · simp only [Act.put, List.setIfInBounds_toArray, List.set_cons_zero, List.set_cons_succ, i64_w, i32_w]
                          rfl
                        refine pure_ (i := 10) (N := some 50) (v := ?_) (a' := ?_) #[true, true, false, true, false, false, false, false, false, false, true, false, false, false, false, false, false, false, false, false] rfl rfl (any_of HT_.out (by kernel_rfl)) (fun _ _ _ h => h) (Or.inl ⟨by rfl, ?_⟩) ?_ ?_
                        rotate_left
                        · intro w'
                          go_simp
                          with_reducible rfl
                        rotate_left
                        · simp only [Act.put, List.setIfInBounds_toArray, List.set_cons_zero, List.set_cons_succ, i64_w, i32_w]
                          rfl
                        refine pure_ (i := 12) (N := some 52) (v := ?_) (a' := ?_) #[true, true, false, true, false, false, false, false, false, false, true, false, true, false, false, false, false, false, false, false] rfl rfl (any_of HT_.out (by kernel_rfl)) (fun _ _ _ h => h) (Or.inl ⟨by rfl, ?_⟩) ?_ ?_
                        rotate_left
                        · intro w'
                          go_simp
                          with_reducible rfl
                        rotate_left
                        · simp only [Act.put, List.setIfInBounds_toArray, List.set_cons_zero, List.set_cons_succ, i64_w, i32_w]
                          rfl
                        refine take_ (i := 2) (N := some 42) (v := ?_) (a' := ?_) #[true, true, true, true, false, false, false, false, false, false, true, false, true, false, false, false, false, false, false, false] rfl rfl (take_ofW HT_.out HW_.out (by kernel_rfl)) (fun _ _ _ h => h) (Or.inl ⟨by rfl, ?_⟩) hHeld ?_ ?_
                        rotate_left
                        · rintro w' ⟨s0, s1, s2, s3, s4, s5, s6, s7, s8, s9, s10⟩
                          go_simp
                          with_reducible rfl
                        rotate_left
                        · simp only [Act.put, List.setIfInBounds_toArray, List.set_cons_zero, List.set_cons_succ, i64_w, i32_w]
                          rfl
                        refine pure_ (i := 4) (N := some 44) (v := ?_) (a' := ?_) #[true, true, true, true, true, false, false, false, false, false, true, false, true, false, false, false, false, false, false, false] rfl rfl (any_of HT_.out (by kernel_rfl)) (fun _ _ _ h => h) (Or.inl ⟨by rfl, ?_⟩) ?_ ?_
                        rotate_left
                        · intro w'
                          go_simp
                          with_reducible rfl
                        rotate_left
                        · simp only [Act.put, List.setIfInBounds_toArray, List.set_cons_zero, List.set_cons_succ, i64_w, i32_w]
                          rfl
                        refine pure_ (i := 5) (N := some 45) (v := ?_) (a' := ?_) #[true, true, true, true, true, true, false, false, false, false, true, false, true, false, false, false, false, false, false, false] rfl rfl (any_of HT_.out (by kernel_rfl)) (fun _ _ _ h => h) (Or.inl ⟨by rfl, ?_⟩) ?_ ?_
                        rotate_left
                        · intro w'
                          go_simp
                          with_reducible rfl
                        rotate_left
                        · simp only [Act.put, List.setIfInBounds_toArray, List.set_cons_zero, List.set_cons_succ, i64_w, i32_w]
                          rfl
                        refine take_ (i := 6) (N := some 46) (v := ?_) (a' := ?_) #[true, true, true, true, true, true, true, false, false, false, true, false, true, false, false, false, false, false, false, false] rfl rfl (take_ofW HT_.out HW_.out (by kernel_rfl)) (fun _ _ _ h => h) (Or.inl ⟨by rfl, ?_⟩) hHeld ?_ ?_
                        rotate_left
                        · rintro w' ⟨s0, s1, s2, s3, s4, s5, s6, s7, s8, s9, s10⟩
                          go_simp
                          with_reducible rfl
                        rotate_left
                        · simp only [Act.put, List.setIfInBounds_toArray, List.set_cons_zero, List.set_cons_succ, i64_w, i32_w]
                          rfl
                        refine take_ (i := 11) (N := some 51) (v := ?_) (a' := ?_) #[true, true, true, true, true, true, true, false, false, false, true, true, true, false, false, false, false, false, false, false] rfl rfl (take_ofW HT_.out HW_.out (by kernel_rfl)) (fun _ _ _ h => h) (Or.inl ⟨by rfl, ?_⟩) hHeld ?_ ?_
                        rotate_left
                        · rintro w' ⟨s0, s1, s2, s3, s4, s5, s6, s7, s8, s9, s10⟩
                          go_simp
                          with_reducible rfl
                        rotate_left
                        · simp only [Act.put, List.setIfInBounds_toArray, List.set_cons_zero, List.set_cons_succ, i64_w, i32_w]
                          rfl
                        refine pure_ (i := 13) (N := some 53) (v := ?_) (a' := ?_) #[true, true, true, true, true, true, true, false, false, false, true, true, true, true, false, false, false, false, false, false] rfl rfl (any_of HT_.out (by kernel_rfl)) (fun _ _ _ h => h) (Or.inl ⟨by rfl, ?_⟩) ?_ ?_
                        rotate_left
                        · intro w'
                          go_simp
                          with_reducible rfl
                        rotate_left
                        · simp only [Act.put, List.setIfInBounds_toArray, List.set_cons_zero, List.set_cons_succ, i64_w, i32_w]
                          rfl
                        refine pure_ (i := 14) (N := some 54) (v := ?_) (a' := ?_) #[true, true, true, true, true, true, true, false, false, false, true, true, true, true, true, false, false, false, false, false] rfl rfl (any_of HT_.out (by kernel_rfl)) (fun _ _ _ h => h) (Or.inl ⟨by rfl, ?_⟩) ?_ ?_
                        rotate_left
                        · intro w'
                          go_simp
                          with_reducible rfl
                        rotate_left
                        · simp only [Act.put, List.setIfInBounds_toArray, List.set_cons_zero, List.set_cons_succ, i64_w, i32_w]
                          rfl
                        refine take_ (i := 15) (N := some 55) (v := ?_) (a' := ?_) #[true, true, true, true, true, true, true, false, false, false, true, true, true, true, true, true, false, false, false, false] rfl rfl (take_ofW HT_.out HW_.out (by kernel_rfl)) (fun _ _ _ h => h) (Or.inl ⟨by rfl, ?_⟩) hHeld ?_ ?_
                        rotate_left
                        · rintro w' ⟨s0, s1, s2, s3, s4, s5, s6, s7, s8, s9, s10⟩
                          go_simp
                          with_reducible rfl
                        rotate_left
                        · simp only [Act.put, List.setIfInBounds_toArray, List.set_cons_zero, List.set_cons_succ, i64_w, i32_w]
                          rfl
                        refine one_ (i := 7) (N := some 47) #[true, true, true, true, true, true, true, true, false, false, true, true, true, true, true, true, false, false, false, false] rfl rfl (one_of HT_.out (by kernel_rfl)) (by decide) (fun K hK => ?_)
                        refine goes_ Tryd.func61 (by kernel_rfl) rfl #[.string ((rd_T101 l0_2 x4_1).f0)] (by rfl) rfl rfl (by (try simp only [List.map_toArray, List.map_cons, List.map_nil]); first | done | rfl | (simp only [List.length_drop, List.length_take]; rfl)) ?_
                        with_reducible refine (cachepotref3_Hex.calls ((rd_T101 l0_2 x4_1).f0) t164 _ A18.out).mono ?_
                        rintro e w26 ⟨rfl, hb⟩
                        refine ⟨_, rfl, ?_⟩
                        have n0_ := Aside0.mk (blk_below (g := gb158) (o := .cells #[.int .i64 a0_0, .int .u32 a0_1, .slice (some ad160) l0_2.length c0_2, .slice A0_3 l0_3.length c0_3, .slice A0_4 l0_4.length c0_4] 43 (0, 0)) (by (with_reducible repeat (first | refine blk_drewN ?_ _ | refine blk_drew ?_ | refine blk_alloc ?_ _)); exact BK158.out) hb)
                        have n1_ := Aside0.mk (below_step (by repeat (first | (with_reducible first | exact HB.out | apply below_alloc | apply pw_below_drewN | apply below_drew1 | refine below_set ?_ GE158.out) | exact HB.out)) hb)
                        clear BK158
                        clear HB
                        have BK158 := n0_
                        have HB := n1_
                        clear n0_ n1_
                        (try clear hb)
                        (try clear hb2)
                        (try clear hk)
                        (try clear hi)
                        refine hK.out _ _ ⟨(blk_cell BK158.out 0).trans rfl, (blk_cell BK158.out 1).trans rfl, (blk_cell BK158.out 2).trans rfl, (blk_cell BK158.out 3).trans rfl, (blk_cell BK158.out 4).trans rfl, ((HB.out.cell (World.block_lt_of_cell? w _ hw163_0)).trans hw163_0), ((HB.out.cell (World.block_lt_of_cell? w _ hw163_1)).trans hw163_1), ((HB.out.cell (World.block_lt_of_cell? w _ hw163_2)).trans hw163_2), ((HB.out.cell (World.block_lt_of_cell? w _ hw165_0)).trans hw165_0), ((HB.out.cell (World.block_lt_of_cell? w _ hw165_1)).trans hw165_1), ((HB.out.cell (World.block_lt_of_cell? w _ hw165_2)).trans hw165_2)⟩ (fun hHeld => ?_)
                        clear hK K
                        refine norm_ (a' := ?_) ?_ ?_
                        rotate_left
                        · show Act.put _ (some 47) _ = _
                          simp only [Act.put, List.setIfInBounds_toArray, List.set_cons_zero, List.set_cons_succ, i64_w, i32_w]
                          rfl
                        refine pure_ (i := 8) (N := some 48) (v := ?_) (a' := ?_) #[true, true, true, true, true, true, true, true, true, false, true, true, true, true, true, true, false, false, false, false] rfl rfl (any_of HT_.out (by kernel_rfl)) (fun _ _ _ h => h) (Or.inl ⟨by rfl, ?_⟩) ?_ ?_
                        rotate_left
                        · intro w'
                          go_simp
                          with_reducible rfl
                        rotate_left
                        · simp only [Act.put, List.setIfInBounds_toArray, List.set_cons_zero, List.set_cons_succ, i64_w, i32_w]
                          rfl
                        refine pure_ (i := 9) (N := some 49) (v := ?_) (a' := ?_) #[true, true, true, true, true, true, true, true, true, true, true, true, true, true, true, true, false, false, false, false] rfl rfl (any_of HT_.out (by kernel_rfl)) (fun _ _ _ h => h) (Or.inl ⟨by rfl, ?_⟩) ?_ ?_
                        rotate_left
                        · intro w'
                          go_simp
                          with_reducible rfl
                        rotate_left
                        · simp only [Act.put, List.setIfInBounds_toArray, List.set_cons_zero, List.set_cons_succ, i64_w, i32_w]
                          rfl
                        refine one_ (i := 16) (N := some 56) #[true, true, true, true, true, true, true, true, true, true, true, true, true, true, true, true, true, false, false, false] rfl rfl (one_of HT_.out (by kernel_rfl)) (by decide) (fun K hK => ?_)
                        refine goes_ Tryd.func61 (by kernel_rfl) rfl #[.string ((rd_T101 l0_2 x4_1).f2)] (by rfl) rfl rfl (by (try simp only [List.map_toArray, List.map_cons, List.map_nil]); first | done | rfl | (simp only [List.length_drop, List.length_take]; rfl)) ?_
                        with_reducible refine (cachepotref3_Hex.calls ((rd_T101 l0_2 x4_1).f2) t166 _ A21.out).mono ?_
                        rintro e w27 ⟨rfl, hb⟩
                        refine ⟨_, rfl, ?_⟩
                        have n0_ := Aside0.mk (blk_below (g := gb158) (o := .cells #[.int .i64 a0_0, .int .u32 a0_1, .slice (some ad160) l0_2.length c0_2, .slice A0_3 l0_3.length c0_3, .slice A0_4 l0_4.length c0_4] 43 (0, 0)) (by (with_reducible repeat (first | refine blk_drewN ?_ _ | refine blk_drew ?_ | refine blk_alloc ?_ _)); exact BK158.out) hb)
                        have n1_ := Aside0.mk (below_step (by repeat (first | (with_reducible first | exact HB.out | apply below_alloc | apply pw_below_drewN | apply below_drew1 | refine below_set ?_ GE158.out) | exact HB.out)) hb)
                        clear BK158
                        clear HB
                        have BK158 := n0_
                        have HB := n1_
                        clear n0_ n1_
                        (try clear hb)
                        (try clear hb2)
                        (try clear hk)
                        (try clear hi)
                        refine hK.out _ _ ⟨(blk_cell BK158.out 0).trans rfl, (blk_cell BK158.out 1).trans rfl, (blk_cell BK158.out 2).trans rfl, (blk_cell BK158.out 3).trans rfl, (blk_cell BK158.out 4).trans rfl, ((HB.out.cell (World.block_lt_of_cell? w _ hw163_0)).trans hw163_0), ((HB.out.cell (World.block_lt_of_cell? w _ hw163_1)).trans hw163_1), ((HB.out.cell (World.block_lt_of_cell? w _ hw163_2)).trans hw163_2), ((HB.out.cell (World.block_lt_of_cell? w _ hw165_0)).trans hw165_0), ((HB.out.cell (World.block_lt_of_cell? w _ hw165_1)).trans hw165_1), ((HB.out.cell (World.block_lt_of_cell? w _ hw165_2)).trans hw165_2)⟩ (fun hHeld => ?_)
                        clear hK K
                        refine norm_ (a' := ?_) ?_ ?_
                        rotate_left
                        · show Act.put _ (some 56) _ = _
                          simp only [Act.put, List.setIfInBounds_toArray, List.set_cons_zero, List.set_cons_succ, i64_w, i32_w]
                          rfl
                        refine pure_ (i := 17) (N := some 57) (v := ?_) (a' := ?_) #[true, true, true, true, true, true, true, true, true, true, true, true, true, true, true, true, true, true, false, false] rfl rfl (any_of HT_.out (by kernel_rfl)) (fun _ _ _ h => h) (Or.inl ⟨by rfl, ?_⟩) ?_ ?_
                        rotate_left
                        · intro w'
                          go_simp
                          with_reducible rfl
                        rotate_left
                        · simp only [Act.put, List.setIfInBounds_toArray, List.set_cons_zero, List.set_cons_succ, i64_w, i32_w]
                          rfl
                        refine pure_ (i := 18) (N := some 58) (v := ?_) (a' := ?_) #[true, true, true, true, true, true, true, true, true, true, true, true, true, true, true, true, true, true, true, false] rfl rfl (any_of HT_.out (by kernel_rfl)) (fun _ _ _ h => h) (Or.inl ⟨by rfl, ?_⟩) ?_ ?_
                        rotate_left
                        · intro w'
                          go_simp
                          with_reducible rfl
                        rotate_left
                        · simp only [Act.put, List.setIfInBounds_toArray, List.set_cons_zero, List.set_cons_succ, i64_w, i32_w]
                          rfl
                        refine pure_ (i := 19) (N := some 3) (v := ?_) (a' := ?_) #[true, true, true, true, true, true, true, true, true, true, true, true, true, true, true, true, true, true, true, true] rfl rfl (any_of HT_.out (by kernel_rfl)) (fun _ _ _ h => h) (Or.inl ⟨by rfl, ?_⟩) ?_ ?_
                        rotate_left
                        · intro w'
                          go_simp
                          with_reducible rfl
                        rotate_left
                        · simp only [Act.put, List.setIfInBounds_toArray, List.set_cons_zero, List.set_cons_succ, i64_w, i32_w]
                          rfl
                        refine done_ (done_of HT_.out (by kernel_rfl)) ?_
                        try go_wp2
                        go_roundg k1
                        case measure => have := HK1.out; omega
                        case rel => exact ⟨(x3_1 ++ ((((⟨#[32]⟩ : ByteArray) ++ t164) ++ (⟨#[61]⟩ : ByteArray)) ++ t166)), (wrap64 (x4_1 + 1)), (by first | rfl | (simp; done) | (simp [*]; done)), (by first | rfl | (simp; done) | (simp [*]; done)), H', ⟨by have := HK1.out; omega⟩, ⟨by (with_reducible repeat (first | refine blk_drewN ?_ _ | refine blk_drew ?_ | refine blk_alloc ?_ _)); exact BK158.out⟩, ⟨by repeat (first | (with_reducible first | exact HB.out | apply below_alloc | apply pw_below_drewN | apply below_drew1 | refine below_set ?_ GE158.out) | exact HB.out)⟩⟩
                      · rw [if_neg c23] at H
                        exact absurd H (by simp)
                    · rw [if_neg c22] at H
                      exact absurd H (by simp)
                  · rw [if_neg c20] at H
                    exact absurd H (by simp)
                · rw [if_neg c19] at H
                  exact absurd H (by simp)
            · rw [if_neg c9] at H
              exact absurd H (by simp)
          · rw [if_neg c8] at H
            have c8b0 : decide (x4_1 < (l0_2.length : Int)) = false := decide_eq_false c8
            clear c8
            obtain rfl := Option.some.inj H
            have hcz28_0 : wr.cell? ⟨gb158, 0, none⟩ = some (.int .i64 a0_0) := (blk_cell BK158.out 0).trans rfl
            have hcz28_1 : wr.cell? ⟨gb158, 1, none⟩ = some (.int .u32 a0_1) := (blk_cell BK158.out 1).trans rfl
            have hcz28_2 : wr.cell? ⟨gb158, 2, none⟩ = some (.slice A0_2 l0_2.length c0_2) := (blk_cell BK158.out 2).trans rfl
            have hcz28_3 : wr.cell? ⟨gb158, 3, none⟩ = some (.slice A0_3 l0_3.length c0_3) := (blk_cell BK158.out 3).trans rfl
            have hcz28_4 : wr.cell? ⟨gb158, 4, none⟩ = some (.slice A0_4 l0_4.length c0_4) := (blk_cell BK158.out 4).trans rfl
            have hfz28_0 := blk_frozen BK158.out 0
            have hfz28_1 := blk_frozen BK158.out 1
            have hfz28_2 := blk_frozen BK158.out 2
            have hfz28_3 := blk_frozen BK158.out 3
            have hfz28_4 := blk_frozen BK158.out 4
            go_wp2
            go_ret
            exact ⟨by first | rfl | (simp [errW_none, errW_some] <;> rfl) | (simp [*, errW_none, errW_some] <;> rfl), by repeat (first | (with_reducible first | exact HB.out | apply below_alloc | apply pw_below_drewN | apply below_drew1 | refine below_set ?_ GE158.out) | exact HB.out)⟩
    · rw [if_neg c4] at H
      exact absurd H (by simp)
  · rw [if_neg c2] at H
    have c2b0 : (a0_0 == 1) = false := beq_eq_false_iff_ne.mpr c2
    have c2b1 : (a0_0 != 1) = true := bne_iff_ne.mpr c2
    by_cases c29 : a0_0 = 2
    · rw [if_pos c29] at H
      have c29b0 : (a0_0 == 2) = true := beq_iff_eq.mpr c29
      have c29b1 : (a0_0 != 2) = false := bne_eq_false_iff_eq.mpr c29
      clear c29
      have H' := Aside0.mk H
      clear H
      go_enter Tryd.func33, Tryd.ntmps33
      go_wp2_with (first | ((with_reducible refine gate_dst (N := 1) rfl ?_); refine box_event ?hg (N := 1) ?hd (cs := #[.int .i64 a0_0, .int .u32 a0_1, .slice A0_2 l0_2.length c0_2, .slice A0_3 l0_3.length c0_3, .slice A0_4 l0_4.length c0_4]) (t := 43) ?hr ?_; (case hd => rfl); (case hg => rfl); (case hr => first | (go_simp; done) | (go_simp; rfl)); intro gb158 hg w30 hbox hb; have n0_ := Aside0.mk (below_step (by repeat (first | (with_reducible first | exact HB.out | apply below_alloc | apply pw_below_drewN | apply below_drew1) | exact HB.out)) hb); have n1_ := Aside0.mk (hbox); have n2_ := Aside0.mk ((by rw [hg]; exact (below_size (by repeat (first | (with_reducible first | exact HB.out | apply below_alloc | apply pw_below_drewN | apply below_drew1) | exact HB.out))) : w.heap.size ≤ gb158)); have n3_ := Aside0.mk ((by rw [hg]; exact (below_size (by repeat (first | (with_reducible first | exact HB.out | apply below_alloc | apply pw_below_drewN | apply below_drew1) | exact HB.out))) : w.heap.size ≤ gb158)); clear HB; have HB := n0_; have BK158 := n1_; have GW158 := n2_; have GE158 := n3_; clear n0_ n1_ n2_ n3_; clear hb hbox hg; have hcz31_0 : w30.cell? ⟨gb158, 0, none⟩ = some (.int .i64 a0_0) := (blk_cell BK158.out 0).trans rfl; have hcz31_1 : w30.cell? ⟨gb158, 1, none⟩ = some (.int .u32 a0_1) := (blk_cell BK158.out 1).trans rfl; have hcz31_2 : w30.cell? ⟨gb158, 2, none⟩ = some (.slice A0_2 l0_2.length c0_2) := (blk_cell BK158.out 2).trans rfl; have hcz31_3 : w30.cell? ⟨gb158, 3, none⟩ = some (.slice A0_3 l0_3.length c0_3) := (blk_cell BK158.out 3).trans rfl; have hcz31_4 : w30.cell? ⟨gb158, 4, none⟩ = some (.slice A0_4 l0_4.length c0_4) := (blk_cell BK158.out 4).trans rfl; have hfz31_0 := blk_frozen BK158.out 0; have hfz31_1 := blk_frozen BK158.out 1; have hfz31_2 := blk_frozen BK158.out 2; have hfz31_3 := blk_frozen BK158.out 3; have hfz31_4 := blk_frozen BK158.out 4))
      go_loopg [3, 5] k (fun kq v3 v5 w' => ∃ (x3_1 : ByteArray) (x5_1 : Int), v3 = .string x3_1 ∧ v5 = .int .i64 x5_1 ∧ Aside0 (cachepotref3_Line.l1 kq x3_1 x5_1 a0_0 a0_1 l0_2 l0_3 l0_4 = some r) ∧ Aside0 (kq ≤ k) ∧ Aside0 (w'.heap[gb158]? = some (.cells #[.int .i64 a0_0, .int .u32 a0_1, (.slice A0_2 l0_2.length c0_2), (.slice A0_3 l0_3.length c0_3), (.slice A0_4 l0_4.length c0_4)] 43 (0, 0))) ∧ Aside0 (Below w.heap.size w w'))
      case atStart => exact ⟨((⟨#[103, 111, 116]⟩ : ByteArray)), (0), (by first | rfl | (simp; done) | (simp [*]; done)), (by first | rfl | (simp; done) | (simp [*]; done)), H', ⟨Nat.le_refl _⟩, ⟨by (with_reducible repeat (first | refine blk_drewN ?_ _ | refine blk_drew ?_ | refine blk_alloc ?_ _)); exact BK158.out⟩, ⟨by repeat (first | (with_reducible first | exact HB.out | apply below_alloc | apply pw_below_drewN | apply below_drew1 | refine below_set ?_ GE158.out) | exact HB.out)⟩⟩
      case round =>
        clear H'
        try clear c1
        try clear p1
        try clear q1
        try clear hx1
        try clear c2
        try clear c2b0
        try clear c2b1
        try clear p2
        try clear c3
        try clear c4
        try clear c4b0
        try clear c4b1
        try clear c4b2
        try clear c5
        try clear c6
        try clear p6
        try clear c8
        try clear c8b0
        try clear c9
        try clear c9b0
        try clear q10
        try clear c11
        try clear c13
        try clear c13b0
        try clear c13b1
        try clear c13b2
        try clear c14
        try clear c14b0
        try clear c14b1
        try clear c14b2
        try clear c15
        try clear c15b0
        try clear c15b1
        try clear c15b2
        try clear p16
        try clear q16
        try clear hx16
        try clear c19
        try clear c19b0
        try clear c19b1
        try clear c19b2
        try clear c20
        try clear c20b0
        try clear c20b1
        try clear c20b2
        try clear c22
        try clear c22b0
        try clear c22b1
        try clear c22b2
        try clear c23
        try clear c23b0
        try clear c23b1
        try clear c23b2
        try clear c29
        try clear c29b0
        try clear c29b1
        try clear hcz16_0
        try clear hcz16_1
        try clear hcz16_2
        try clear hcz16_3
        try clear hcz16_4
        try clear hcz24_0
        try clear hcz24_1
        try clear hcz24_2
        try clear hcz24_3
        try clear hcz24_4
        try clear hcz28_0
        try clear hcz28_1
        try clear hcz28_2
        try clear hcz28_3
        try clear hcz28_4
        try clear hcz31_0
        try clear hcz31_1
        try clear hcz31_2
        try clear hcz31_3
        try clear hcz31_4
        try clear hcz6_0
        try clear hcz6_1
        try clear hcz6_2
        try clear hcz6_3
        try clear hcz6_4
        try clear hfz16_0
        try clear hfz16_1
        try clear hfz16_2
        try clear hfz16_3
        try clear hfz16_4
        try clear hfz24_0
        try clear hfz24_1
        try clear hfz24_2
        try clear hfz24_3
        try clear hfz24_4
        try clear hfz28_0
        try clear hfz28_1
        try clear hfz28_2
        try clear hfz28_3
        try clear hfz28_4
        try clear hfz31_0
        try clear hfz31_1
        try clear hfz31_2
        try clear hfz31_3
        try clear hfz31_4
        try clear hfz6_0
        try clear hfz6_1
        try clear hfz6_2
        try clear hfz6_3
        try clear hfz6_4
        try clear hx160_0
        try clear hx160_1
        try clear hx160_2
        try clear hx161_0
        try clear hx161_1
        try clear hx161_2
        try clear hx163_0
        try clear hx163_1
        try clear hx163_2
        try clear hx165_0
        try clear hx165_1
        try clear hx165_2
        try clear p160
        try clear p161
        try clear p163
        try clear p165
        try clear p2
        try clear p6
        try clear q160
        try clear q161
        try clear q163
        try clear q165
        obtain ⟨x3_1, x5_1, rfl, rfl, HA, HK1, BK158, HB⟩ := hrel
        cases gk with
        | zero => exact absurd HA.out (by simp [cachepotref3_Line.l1])
        | succ k1 =>
          have H := HA.out
          clear HA
          simp only [cachepotref3_Line.l1] at H
          by_cases c32 : x5_1 < (l0_3.length : Int)
          · rw [if_pos c32] at H
            have c32b0 : decide (x5_1 < (l0_3.length : Int)) = true := decide_eq_true c32
            clear c32
            by_cases c33 : 0 ≤ x5_1
            · rw [if_pos c33] at H
              have c33b0 : decide (0 ≤ x5_1) = true := decide_eq_true c33
              clear c33
              obtain ⟨bq34, hbq34⟩ : ∃ b_ : Bool, b_ = ((rd_T98 l0_3 x5_1).f1) := ⟨_, rfl⟩
              replace H : (if bq34 = true then ((cachepotref3_Hex.f ((rd_T98 l0_3 x5_1).f0)).bind fun t169 => (if 1 + t169.size ≤ 9223372036854775807 then (if ((⟨#[32]⟩ : ByteArray) ++ t169).size + 1 ≤ 9223372036854775807 then ((cachepotref3_Hex.f ((rd_T98 l0_3 x5_1).f2)).bind fun t171 => (if (((⟨#[32]⟩ : ByteArray) ++ t169) ++ (⟨#[61]⟩ : ByteArray)).size + t171.size ≤ 9223372036854775807 then (if ((((⟨#[32]⟩ : ByteArray) ++ t169) ++ (⟨#[61]⟩ : ByteArray)) ++ t171).size + 1 ≤ 9223372036854775807 then ((cachepotref3_Digits.f k1 (wrap64 ((rd_T98 l0_3 x5_1).f3))).bind fun t173 => (if (((((⟨#[32]⟩ : ByteArray) ++ t169) ++ (⟨#[61]⟩ : ByteArray)) ++ t171) ++ (⟨#[64]⟩ : ByteArray)).size + t173.size ≤ 9223372036854775807 then (if x3_1.size + ((((((⟨#[32]⟩ : ByteArray) ++ t169) ++ (⟨#[61]⟩ : ByteArray)) ++ t171) ++ (⟨#[64]⟩ : ByteArray)) ++ t173).size ≤ 9223372036854775807 then (cachepotref3_Line.l1 k1 (x3_1 ++ ((((((⟨#[32]⟩ : ByteArray) ++ t169) ++ (⟨#[61]⟩ : ByteArray)) ++ t171) ++ (⟨#[64]⟩ : ByteArray)) ++ t173)) (wrap64 (x5_1 + 1)) a0_0 a0_1 l0_2 l0_3 l0_4) else (none)) else (none))) else (none)) else (none))) else (none)) else (none))) else ((cachepotref3_Hex.f ((rd_T98 l0_3 x5_1).f0)).bind fun t175 => (if 1 + t175.size ≤ 9223372036854775807 then (if ((⟨#[32]⟩ : ByteArray) ++ t175).size + 1 ≤ 9223372036854775807 then (if x3_1.size + (((⟨#[32]⟩ : ByteArray) ++ t175) ++ (⟨#[63]⟩ : ByteArray)).size ≤ 9223372036854775807 then (cachepotref3_Line.l1 k1 (x3_1 ++ (((⟨#[32]⟩ : ByteArray) ++ t175) ++ (⟨#[63]⟩ : ByteArray))) (wrap64 (x5_1 + 1)) a0_0 a0_1 l0_2 l0_3 l0_4) else (none)) else (none)) else (none)))) = some r := by rw [← hbq34] at H; exact H
              have Nbq34 := Aside0.mk hbq34
              clear hbq34
              by_cases c35 : bq34 = true
              · subst c35
                have H1 : ((cachepotref3_Hex.f ((rd_T98 l0_3 x5_1).f0)).bind fun t169 => (if 1 + t169.size ≤ 9223372036854775807 then (if ((⟨#[32]⟩ : ByteArray) ++ t169).size + 1 ≤ 9223372036854775807 then ((cachepotref3_Hex.f ((rd_T98 l0_3 x5_1).f2)).bind fun t171 => (if (((⟨#[32]⟩ : ByteArray) ++ t169) ++ (⟨#[61]⟩ : ByteArray)).size + t171.size ≤ 9223372036854775807 then (if ((((⟨#[32]⟩ : ByteArray) ++ t169) ++ (⟨#[61]⟩ : ByteArray)) ++ t171).size + 1 ≤ 9223372036854775807 then ((cachepotref3_Digits.f k1 (wrap64 ((rd_T98 l0_3 x5_1).f3))).bind fun t173 => (if (((((⟨#[32]⟩ : ByteArray) ++ t169) ++ (⟨#[61]⟩ : ByteArray)) ++ t171) ++ (⟨#[64]⟩ : ByteArray)).size + t173.size ≤ 9223372036854775807 then (if x3_1.size + ((((((⟨#[32]⟩ : ByteArray) ++ t169) ++ (⟨#[61]⟩ : ByteArray)) ++ t171) ++ (⟨#[64]⟩ : ByteArray)) ++ t173).size ≤ 9223372036854775807 then (cachepotref3_Line.l1 k1 (x3_1 ++ ((((((⟨#[32]⟩ : ByteArray) ++ t169) ++ (⟨#[61]⟩ : ByteArray)) ++ t171) ++ (⟨#[64]⟩ : ByteArray)) ++ t173)) (wrap64 (x5_1 + 1)) a0_0 a0_1 l0_2 l0_3 l0_4) else (none)) else (none))) else (none)) else (none))) else (none)) else (none))) = some r := by rw [if_pos rfl] at H; exact H
                clear H
                have H := H1
                clear H1
                replace H := Option.bind_eq_some_iff.mp H
                obtain ⟨t169, A360, H⟩ := H
                replace H : (if 1 + t169.size ≤ 9223372036854775807 then (if ((⟨#[32]⟩ : ByteArray) ++ t169).size + 1 ≤ 9223372036854775807 then ((cachepotref3_Hex.f ((rd_T98 l0_3 x5_1).f2)).bind fun t171 => (if (((⟨#[32]⟩ : ByteArray) ++ t169) ++ (⟨#[61]⟩ : ByteArray)).size + t171.size ≤ 9223372036854775807 then (if ((((⟨#[32]⟩ : ByteArray) ++ t169) ++ (⟨#[61]⟩ : ByteArray)) ++ t171).size + 1 ≤ 9223372036854775807 then ((cachepotref3_Digits.f k1 (wrap64 ((rd_T98 l0_3 x5_1).f3))).bind fun t173 => (if (((((⟨#[32]⟩ : ByteArray) ++ t169) ++ (⟨#[61]⟩ : ByteArray)) ++ t171) ++ (⟨#[64]⟩ : ByteArray)).size + t173.size ≤ 9223372036854775807 then (if x3_1.size + ((((((⟨#[32]⟩ : ByteArray) ++ t169) ++ (⟨#[61]⟩ : ByteArray)) ++ t171) ++ (⟨#[64]⟩ : ByteArray)) ++ t173).size ≤ 9223372036854775807 then (cachepotref3_Line.l1 k1 (x3_1 ++ ((((((⟨#[32]⟩ : ByteArray) ++ t169) ++ (⟨#[61]⟩ : ByteArray)) ++ t171) ++ (⟨#[64]⟩ : ByteArray)) ++ t173)) (wrap64 (x5_1 + 1)) a0_0 a0_1 l0_2 l0_3 l0_4) else (none)) else (none))) else (none)) else (none))) else (none)) else (none)) = some r := H
                have A36 := Aside0.mk A360
                clear A360
                by_cases c37 : 1 + t169.size ≤ 9223372036854775807
                · rw [if_pos c37] at H
                  have c37b0 := eq_true c37
                  have c37b1 : decide (1 + t169.size ≤ 9223372036854775807) = true := decide_eq_true c37
                  try have c37b2 : (9223372036854775807 < 1 + t169.size) = False := eq_false (Nat.not_lt.2 c37)
                  by_cases c38 : ((⟨#[32]⟩ : ByteArray) ++ t169).size + 1 ≤ 9223372036854775807
                  · rw [if_pos c38] at H
                    have c38b0 := eq_true c38
                    have c38b1 : decide (((⟨#[32]⟩ : ByteArray) ++ t169).size + 1 ≤ 9223372036854775807) = true := decide_eq_true c38
                    try have c38b2 : (9223372036854775807 < ((⟨#[32]⟩ : ByteArray) ++ t169).size + 1) = False := eq_false (Nat.not_lt.2 c38)
                    try have c38b9 : (9223372036854775807 < 1 + t169.size + 1) = False := by (have h_ := c38b2; rw [ByteArray.size_append] at h_; exact h_)
                    replace H := Option.bind_eq_some_iff.mp H
                    obtain ⟨t171, A390, H⟩ := H
                    replace H : (if (((⟨#[32]⟩ : ByteArray) ++ t169) ++ (⟨#[61]⟩ : ByteArray)).size + t171.size ≤ 9223372036854775807 then (if ((((⟨#[32]⟩ : ByteArray) ++ t169) ++ (⟨#[61]⟩ : ByteArray)) ++ t171).size + 1 ≤ 9223372036854775807 then ((cachepotref3_Digits.f k1 (wrap64 ((rd_T98 l0_3 x5_1).f3))).bind fun t173 => (if (((((⟨#[32]⟩ : ByteArray) ++ t169) ++ (⟨#[61]⟩ : ByteArray)) ++ t171) ++ (⟨#[64]⟩ : ByteArray)).size + t173.size ≤ 9223372036854775807 then (if x3_1.size + ((((((⟨#[32]⟩ : ByteArray) ++ t169) ++ (⟨#[61]⟩ : ByteArray)) ++ t171) ++ (⟨#[64]⟩ : ByteArray)) ++ t173).size ≤ 9223372036854775807 then (cachepotref3_Line.l1 k1 (x3_1 ++ ((((((⟨#[32]⟩ : ByteArray) ++ t169) ++ (⟨#[61]⟩ : ByteArray)) ++ t171) ++ (⟨#[64]⟩ : ByteArray)) ++ t173)) (wrap64 (x5_1 + 1)) a0_0 a0_1 l0_2 l0_3 l0_4) else (none)) else (none))) else (none)) else (none)) = some r := H
                    have A39 := Aside0.mk A390
                    clear A390
                    by_cases c40 : (((⟨#[32]⟩ : ByteArray) ++ t169) ++ (⟨#[61]⟩ : ByteArray)).size + t171.size ≤ 9223372036854775807
                    · rw [if_pos c40] at H
                      have c40b0 := eq_true c40
                      have c40b1 : decide ((((⟨#[32]⟩ : ByteArray) ++ t169) ++ (⟨#[61]⟩ : ByteArray)).size + t171.size ≤ 9223372036854775807) = true := decide_eq_true c40
                      try have c40b2 : (9223372036854775807 < (((⟨#[32]⟩ : ByteArray) ++ t169) ++ (⟨#[61]⟩ : ByteArray)).size + t171.size) = False := eq_false (Nat.not_lt.2 c40)
                      try have c40b9 : (9223372036854775807 < 1 + t169.size + 1 + t171.size) = False := by (have h_ := c40b2; rw [ByteArray.size_append] at h_; rw [ByteArray.size_append] at h_; exact h_)
                      by_cases c41 : ((((⟨#[32]⟩ : ByteArray) ++ t169) ++ (⟨#[61]⟩ : ByteArray)) ++ t171).size + 1 ≤ 9223372036854775807
                      · rw [if_pos c41] at H
                        have c41b0 := eq_true c41
                        have c41b1 : decide (((((⟨#[32]⟩ : ByteArray) ++ t169) ++ (⟨#[61]⟩ : ByteArray)) ++ t171).size + 1 ≤ 9223372036854775807) = true := decide_eq_true c41
                        try have c41b2 : (9223372036854775807 < ((((⟨#[32]⟩ : ByteArray) ++ t169) ++ (⟨#[61]⟩ : ByteArray)) ++ t171).size + 1) = False := eq_false (Nat.not_lt.2 c41)
                        try have c41b9 : (9223372036854775807 < 1 + t169.size + 1 + t171.size + 1) = False := by (have h_ := c41b2; rw [ByteArray.size_append] at h_; rw [ByteArray.size_append] at h_; rw [ByteArray.size_append] at h_; exact h_)
                        replace H := Option.bind_eq_some_iff.mp H
                        obtain ⟨t173, A420, H⟩ := H
                        replace H : (if (((((⟨#[32]⟩ : ByteArray) ++ t169) ++ (⟨#[61]⟩ : ByteArray)) ++ t171) ++ (⟨#[64]⟩ : ByteArray)).size + t173.size ≤ 9223372036854775807 then (if x3_1.size + ((((((⟨#[32]⟩ : ByteArray) ++ t169) ++ (⟨#[61]⟩ : ByteArray)) ++ t171) ++ (⟨#[64]⟩ : ByteArray)) ++ t173).size ≤ 9223372036854775807 then (cachepotref3_Line.l1 k1 (x3_1 ++ ((((((⟨#[32]⟩ : ByteArray) ++ t169) ++ (⟨#[61]⟩ : ByteArray)) ++ t171) ++ (⟨#[64]⟩ : ByteArray)) ++ t173)) (wrap64 (x5_1 + 1)) a0_0 a0_1 l0_2 l0_3 l0_4) else (none)) else (none)) = some r := H
                        have A42 := Aside0.mk A420
                        clear A420
                        by_cases c43 : (((((⟨#[32]⟩ : ByteArray) ++ t169) ++ (⟨#[61]⟩ : ByteArray)) ++ t171) ++ (⟨#[64]⟩ : ByteArray)).size + t173.size ≤ 9223372036854775807
                        · rw [if_pos c43] at H
                          have c43b0 := eq_true c43
                          have c43b1 : decide ((((((⟨#[32]⟩ : ByteArray) ++ t169) ++ (⟨#[61]⟩ : ByteArray)) ++ t171) ++ (⟨#[64]⟩ : ByteArray)).size + t173.size ≤ 9223372036854775807) = true := decide_eq_true c43
                          try have c43b2 : (9223372036854775807 < (((((⟨#[32]⟩ : ByteArray) ++ t169) ++ (⟨#[61]⟩ : ByteArray)) ++ t171) ++ (⟨#[64]⟩ : ByteArray)).size + t173.size) = False := eq_false (Nat.not_lt.2 c43)
                          try have c43b9 : (9223372036854775807 < 1 + t169.size + 1 + t171.size + 1 + t173.size) = False := by (have h_ := c43b2; rw [ByteArray.size_append] at h_; rw [ByteArray.size_append] at h_; rw [ByteArray.size_append] at h_; rw [ByteArray.size_append] at h_; exact h_)
                          by_cases c44 : x3_1.size + ((((((⟨#[32]⟩ : ByteArray) ++ t169) ++ (⟨#[61]⟩ : ByteArray)) ++ t171) ++ (⟨#[64]⟩ : ByteArray)) ++ t173).size ≤ 9223372036854775807
                          · rw [if_pos c44] at H
                            have c44b0 := eq_true c44
                            have c44b1 : decide (x3_1.size + ((((((⟨#[32]⟩ : ByteArray) ++ t169) ++ (⟨#[61]⟩ : ByteArray)) ++ t171) ++ (⟨#[64]⟩ : ByteArray)) ++ t173).size ≤ 9223372036854775807) = true := decide_eq_true c44
                            try have c44b2 : (9223372036854775807 < x3_1.size + ((((((⟨#[32]⟩ : ByteArray) ++ t169) ++ (⟨#[61]⟩ : ByteArray)) ++ t171) ++ (⟨#[64]⟩ : ByteArray)) ++ t173).size) = False := eq_false (Nat.not_lt.2 c44)
                            try have c44b9 : (9223372036854775807 < x3_1.size + (1 + t169.size + 1 + t171.size + 1 + t173.size)) = False := by (have h_ := c44b2; rw [ByteArray.size_append] at h_; rw [ByteArray.size_append] at h_; rw [ByteArray.size_append] at h_; rw [ByteArray.size_append] at h_; rw [ByteArray.size_append] at h_; exact h_)
                            have H' := Aside0.mk H
                            clear H
                            have hcz45_0 : wr.cell? ⟨gb158, 0, none⟩ = some (.int .i64 a0_0) := (blk_cell BK158.out 0).trans rfl
                            have hcz45_1 : wr.cell? ⟨gb158, 1, none⟩ = some (.int .u32 a0_1) := (blk_cell BK158.out 1).trans rfl
                            have hcz45_2 : wr.cell? ⟨gb158, 2, none⟩ = some (.slice A0_2 l0_2.length c0_2) := (blk_cell BK158.out 2).trans rfl
                            have hcz45_3 : wr.cell? ⟨gb158, 3, none⟩ = some (.slice A0_3 l0_3.length c0_3) := (blk_cell BK158.out 3).trans rfl
                            have hcz45_4 : wr.cell? ⟨gb158, 4, none⟩ = some (.slice A0_4 l0_4.length c0_4) := (blk_cell BK158.out 4).trans rfl
                            have hfz45_0 := blk_frozen BK158.out 0
                            have hfz45_1 := blk_frozen BK158.out 1
                            have hfz45_2 := blk_frozen BK158.out 2
                            have hfz45_3 := blk_frozen BK158.out 3
                            have hfz45_4 := blk_frozen BK158.out 4
                            have p167 : 0 ≤ (x5_1 : Int) := of_decide_eq_true (by first | (with_reducible assumption) | assumption)
                            have q167 : x5_1 < (l0_3.length : Int) := of_decide_eq_true (by first | (with_reducible assumption) | assumption)
                            obtain ⟨ad167, e167, hx167_0, hx167_1, hx167_2, hx167_3⟩ := at_T98 HR0_3.out x5_1 p167 q167
                            (try rw [← Nbq34.out] at hx167_1)
                            (try rw [← Nbq34.out] at hw167_1)
                            cases e167
                            replace hx167_0 := (HB.out.cell (World.block_lt_of_cell? w _ hx167_0)).trans hx167_0
                            replace hx167_1 := (HB.out.cell (World.block_lt_of_cell? w _ hx167_1)).trans hx167_1
                            replace hx167_2 := (HB.out.cell (World.block_lt_of_cell? w _ hx167_2)).trans hx167_2
                            replace hx167_3 := (HB.out.cell (World.block_lt_of_cell? w _ hx167_3)).trans hx167_3
                            replace p167 := eq_true p167
                            replace q167 := eq_true q167
                            try go_wp2
                            have n0_ := Aside0.mk (blk_drew BK158.out)
                            have n1_ := Aside0.mk (below_drew1 HB.out)
                            clear BK158
                            clear HB
                            have BK158 := n0_
                            have HB := n1_
                            clear n0_ n1_
                            have p168 : 0 ≤ (x5_1 : Int) := of_decide_eq_true (by first | (with_reducible assumption) | assumption)
                            have q168 : x5_1 < (l0_3.length : Int) := of_decide_eq_true (by first | (with_reducible assumption) | assumption)
                            obtain ⟨ad168, e168, hx168_0, hx168_1, hx168_2, hx168_3⟩ := at_T98 HR0_3.out x5_1 p168 q168
                            have hw168_3 := hx168_3
                            have hw168_2 := hx168_2
                            have hw168_1 := hx168_1
                            have hw168_0 := hx168_0
                            (try rw [← Nbq34.out] at hx168_1)
                            (try rw [← Nbq34.out] at hw168_1)
                            obtain rfl : ad167 = ad168 := (by injection e168)
                            replace hx168_0 := (HB.out.cell (World.block_lt_of_cell? w _ hx168_0)).trans hx168_0
                            replace hx168_1 := (HB.out.cell (World.block_lt_of_cell? w _ hx168_1)).trans hx168_1
                            replace hx168_2 := (HB.out.cell (World.block_lt_of_cell? w _ hx168_2)).trans hx168_2
                            replace hx168_3 := (HB.out.cell (World.block_lt_of_cell? w _ hx168_3)).trans hx168_3
                            replace p168 := eq_true p168
                            replace q168 := eq_true q168
                            have p170 : 0 ≤ (x5_1 : Int) := of_decide_eq_true (by first | (with_reducible assumption) | assumption)
                            have q170 : x5_1 < (l0_3.length : Int) := of_decide_eq_true (by first | (with_reducible assumption) | assumption)
                            obtain ⟨ad170, e170, hx170_0, hx170_1, hx170_2, hx170_3⟩ := at_T98 HR0_3.out x5_1 p170 q170
                            have hw170_3 := hx170_3
                            have hw170_2 := hx170_2
                            have hw170_1 := hx170_1
                            have hw170_0 := hx170_0
                            (try rw [← Nbq34.out] at hx170_1)
                            (try rw [← Nbq34.out] at hw170_1)
                            obtain rfl : ad167 = ad170 := (by injection e170)
                            replace hx170_0 := (HB.out.cell (World.block_lt_of_cell? w _ hx170_0)).trans hx170_0
                            replace hx170_1 := (HB.out.cell (World.block_lt_of_cell? w _ hx170_1)).trans hx170_1
                            replace hx170_2 := (HB.out.cell (World.block_lt_of_cell? w _ hx170_2)).trans hx170_2
                            replace hx170_3 := (HB.out.cell (World.block_lt_of_cell? w _ hx170_3)).trans hx170_3
                            replace p170 := eq_true p170
                            replace q170 := eq_true q170
                            have p172 : 0 ≤ (x5_1 : Int) := of_decide_eq_true (by first | (with_reducible assumption) | assumption)
                            have q172 : x5_1 < (l0_3.length : Int) := of_decide_eq_true (by first | (with_reducible assumption) | assumption)
                            obtain ⟨ad172, e172, hx172_0, hx172_1, hx172_2, hx172_3⟩ := at_T98 HR0_3.out x5_1 p172 q172
                            have hw172_3 := hx172_3
                            have hw172_2 := hx172_2
                            have hw172_1 := hx172_1
                            have hw172_0 := hx172_0
                            (try rw [← Nbq34.out] at hx172_1)
                            (try rw [← Nbq34.out] at hw172_1)
                            obtain rfl : ad167 = ad172 := (by injection e172)
                            replace hx172_0 := (HB.out.cell (World.block_lt_of_cell? w _ hx172_0)).trans hx172_0
                            replace hx172_1 := (HB.out.cell (World.block_lt_of_cell? w _ hx172_1)).trans hx172_1
                            replace hx172_2 := (HB.out.cell (World.block_lt_of_cell? w _ hx172_2)).trans hx172_2
                            replace hx172_3 := (HB.out.cell (World.block_lt_of_cell? w _ hx172_3)).trans hx172_3
                            replace p172 := eq_true p172
                            replace q172 := eq_true q172
                            refine start_ (n := 30) (S := fun w' => w'.cell? ⟨gb158, 0, none⟩ = some (.int .i64 a0_0) ∧ w'.cell? ⟨gb158, 1, none⟩ = some (.int .u32 a0_1) ∧ w'.cell? ⟨gb158, 2, none⟩ = some (.slice A0_2 l0_2.length c0_2) ∧ w'.cell? ⟨gb158, 3, none⟩ = some (.slice (some ad167) l0_3.length c0_3) ∧ w'.cell? ⟨gb158, 4, none⟩ = some (.slice A0_4 l0_4.length c0_4) ∧ w'.cell? (ad167.add ((x5_1).toNat * 4)) = some (.string ((rd_T98 l0_3 x5_1).f0)) ∧ w'.cell? ⟨(ad167.add ((x5_1).toNat * 4)).block, (ad167.add ((x5_1).toNat * 4)).off + 1, none⟩ = some (.bool (true)) ∧ w'.cell? ⟨(ad167.add ((x5_1).toNat * 4)).block, (ad167.add ((x5_1).toNat * 4)).off + 2, none⟩ = some (.string ((rd_T98 l0_3 x5_1).f2)) ∧ w'.cell? ⟨(ad167.add ((x5_1).toNat * 4)).block, (ad167.add ((x5_1).toNat * 4)).off + 3, none⟩ = some (.int .u32 ((rd_T98 l0_3 x5_1).f3)) ∧ w'.cell? (ad167.add ((x5_1).toNat * 4)) = some (.string ((rd_T98 l0_3 x5_1).f0)) ∧ w'.cell? ⟨(ad167.add ((x5_1).toNat * 4)).block, (ad167.add ((x5_1).toNat * 4)).off + 1, none⟩ = some (.bool (true)) ∧ w'.cell? ⟨(ad167.add ((x5_1).toNat * 4)).block, (ad167.add ((x5_1).toNat * 4)).off + 2, none⟩ = some (.string ((rd_T98 l0_3 x5_1).f2)) ∧ w'.cell? ⟨(ad167.add ((x5_1).toNat * 4)).block, (ad167.add ((x5_1).toNat * 4)).off + 3, none⟩ = some (.int .u32 ((rd_T98 l0_3 x5_1).f3)) ∧ w'.cell? (ad167.add ((x5_1).toNat * 4)) = some (.string ((rd_T98 l0_3 x5_1).f0)) ∧ w'.cell? ⟨(ad167.add ((x5_1).toNat * 4)).block, (ad167.add ((x5_1).toNat * 4)).off + 1, none⟩ = some (.bool (true)) ∧ w'.cell? ⟨(ad167.add ((x5_1).toNat * 4)).block, (ad167.add ((x5_1).toNat * 4)).off + 2, none⟩ = some (.string ((rd_T98 l0_3 x5_1).f2)) ∧ w'.cell? ⟨(ad167.add ((x5_1).toNat * 4)).block, (ad167.add ((x5_1).toNat * 4)).off + 3, none⟩ = some (.int .u32 ((rd_T98 l0_3 x5_1).f3))) (ds := []) #[false, false, false, false, false, false, false, false, false, false, false, false, false, false, false, false, false, false, false, false, false, false, false, false, false, false, false, false, false, false] (by kernel_rfl) rfl rfl ⟨(blk_cell BK158.out 0).trans rfl, (blk_cell BK158.out 1).trans rfl, (blk_cell BK158.out 2).trans rfl, (blk_cell BK158.out 3).trans rfl, (blk_cell BK158.out 4).trans rfl, ((HB.out.cell (World.block_lt_of_cell? w _ hw168_0)).trans hw168_0), ((HB.out.cell (World.block_lt_of_cell? w _ hw168_1)).trans hw168_1), ((HB.out.cell (World.block_lt_of_cell? w _ hw168_2)).trans hw168_2), ((HB.out.cell (World.block_lt_of_cell? w _ hw168_3)).trans hw168_3), ((HB.out.cell (World.block_lt_of_cell? w _ hw170_0)).trans hw170_0), ((HB.out.cell (World.block_lt_of_cell? w _ hw170_1)).trans hw170_1), ((HB.out.cell (World.block_lt_of_cell? w _ hw170_2)).trans hw170_2), ((HB.out.cell (World.block_lt_of_cell? w _ hw170_3)).trans hw170_3), ((HB.out.cell (World.block_lt_of_cell? w _ hw172_0)).trans hw172_0), ((HB.out.cell (World.block_lt_of_cell? w _ hw172_1)).trans hw172_1), ((HB.out.cell (World.block_lt_of_cell? w _ hw172_2)).trans hw172_2), ((HB.out.cell (World.block_lt_of_cell? w _ hw172_3)).trans hw172_3)⟩ (fun hHeld => ?_); refine with_tabW cachepotref3_Line.tab17 cachepotref3_Line.bits17 (fun HT_ HW_ => ?_)
                            generalize wr.drew = w46 at BK158 HB hx168_0 hx168_1 hx168_2 hx168_3 hx170_0 hx170_1 hx170_2 hx170_3 hx172_0 hx172_1 hx172_2 hx172_3 hHeld ⊢
                            refine pure_ (i := 0) (N := some 74) (v := ?_) (a' := ?_) #[true, false, false, false, false, false, false, false, false, false, false, false, false, false, false, false, false, false, false, false, false, false, false, false, false, false, false, false, false, false] rfl rfl (any_of HT_.out (by kernel_rfl)) (fun _ _ _ h => h) (Or.inl ⟨by rfl, ?_⟩) ?_ ?_
                            rotate_left
                            · intro w'
                              go_simp
                              with_reducible rfl
                            rotate_left
                            · simp only [Act.put, List.setIfInBounds_toArray, List.set_cons_zero, List.set_cons_succ, i64_w, i32_w]
                              rfl
                            refine pure_ (i := 1) (N := some 75) (v := ?_) (a' := ?_) #[true, true, false, false, false, false, false, false, false, false, false, false, false, false, false, false, false, false, false, false, false, false, false, false, false, false, false, false, false, false] rfl rfl (any_of HT_.out (by kernel_rfl)) (fun _ _ _ h => h) (Or.inl ⟨by rfl, ?_⟩) ?_ ?_
                            rotate_left
                            · intro w'
                              go_simp
                              with_reducible rfl
                            rotate_left
                            · simp only [Act.put, List.setIfInBounds_toArray, List.set_cons_zero, List.set_cons_succ, i64_w, i32_w]
                              rfl
                            refine pure_ (i := 3) (N := some 77) (v := ?_) (a' := ?_) #[true, true, false, true, false, false, false, false, false, false, false, false, false, false, false, false, false, false, false, false, false, false, false, false, false, false, false, false, false, false] rfl rfl (any_of HT_.out (by kernel_rfl)) (fun _ _ _ h => h) (Or.inl ⟨by rfl, ?_⟩) ?_ ?_
                            rotate_left
                            · intro w'
                              go_simp
                              with_reducible rfl
                            rotate_left
                            · simp only [Act.put, List.setIfInBounds_toArray, List.set_cons_zero, List.set_cons_succ, i64_w, i32_w]
                              rfl
                            refine pure_ (i := 10) (N := some 84) (v := ?_) (a' := ?_) #[true, true, false, true, false, false, false, false, false, false, true, false, false, false, false, false, false, false, false, false, false, false, false, false, false, false, false, false, false, false] rfl rfl (any_of HT_.out (by kernel_rfl)) (fun _ _ _ h => h) (Or.inl ⟨by rfl, ?_⟩) ?_ ?_
                            rotate_left
                            · intro w'
                              go_simp
                              with_reducible rfl
                            rotate_left
                            · simp only [Act.put, List.setIfInBounds_toArray, List.set_cons_zero, List.set_cons_succ, i64_w, i32_w]
                              rfl
                            refine pure_ (i := 12) (N := some 86) (v := ?_) (a' := ?_) #[true, true, false, true, false, false, false, false, false, false, true, false, true, false, false, false, false, false, false, false, false, false, false, false, false, false, false, false, false, false] rfl rfl (any_of HT_.out (by kernel_rfl)) (fun _ _ _ h => h) (Or.inl ⟨by rfl, ?_⟩) ?_ ?_
                            rotate_left
                            · intro w'
                              go_simp
                              with_reducible rfl
                            rotate_left
                            · simp only [Act.put, List.setIfInBounds_toArray, List.set_cons_zero, List.set_cons_succ, i64_w, i32_w]
                              rfl
                            refine pure_ (i := 19) (N := some 93) (v := ?_) (a' := ?_) #[true, true, false, true, false, false, false, false, false, false, true, false, true, false, false, false, false, false, false, true, false, false, false, false, false, false, false, false, false, false] rfl rfl (any_of HT_.out (by kernel_rfl)) (fun _ _ _ h => h) (Or.inl ⟨by rfl, ?_⟩) ?_ ?_
                            rotate_left
                            · intro w'
                              go_simp
                              with_reducible rfl
                            rotate_left
                            · simp only [Act.put, List.setIfInBounds_toArray, List.set_cons_zero, List.set_cons_succ, i64_w, i32_w]
                              rfl
                            refine pure_ (i := 21) (N := some 95) (v := ?_) (a' := ?_) #[true, true, false, true, false, false, false, false, false, false, true, false, true, false, false, false, false, false, false, true, false, true, false, false, false, false, false, false, false, false] rfl rfl (any_of HT_.out (by kernel_rfl)) (fun _ _ _ h => h) (Or.inl ⟨by rfl, ?_⟩) ?_ ?_
                            rotate_left
                            · intro w'
                              go_simp
                              with_reducible rfl
                            rotate_left
                            · simp only [Act.put, List.setIfInBounds_toArray, List.set_cons_zero, List.set_cons_succ, i64_w, i32_w]
                              rfl
                            refine take_ (i := 2) (N := some 76) (v := ?_) (a' := ?_) #[true, true, true, true, false, false, false, false, false, false, true, false, true, false, false, false, false, false, false, true, false, true, false, false, false, false, false, false, false, false] rfl rfl (take_ofW HT_.out HW_.out (by kernel_rfl)) (fun _ _ _ h => h) (Or.inl ⟨by rfl, ?_⟩) hHeld ?_ ?_
                            rotate_left
                            · rintro w' ⟨s0, s1, s2, s3, s4, s5, s6, s7, s8, s9, s10, s11, s12, s13, s14, s15, s16⟩
                              go_simp
                              with_reducible rfl
                            rotate_left
                            · simp only [Act.put, List.setIfInBounds_toArray, List.set_cons_zero, List.set_cons_succ, i64_w, i32_w]
                              rfl
                            refine pure_ (i := 4) (N := some 78) (v := ?_) (a' := ?_) #[true, true, true, true, true, false, false, false, false, false, true, false, true, false, false, false, false, false, false, true, false, true, false, false, false, false, false, false, false, false] rfl rfl (any_of HT_.out (by kernel_rfl)) (fun _ _ _ h => h) (Or.inl ⟨by rfl, ?_⟩) ?_ ?_
                            rotate_left
                            · intro w'
                              go_simp
                              with_reducible rfl
                            rotate_left
                            · simp only [Act.put, List.setIfInBounds_toArray, List.set_cons_zero, List.set_cons_succ, i64_w, i32_w]
                              rfl
                            refine pure_ (i := 5) (N := some 79) (v := ?_) (a' := ?_) #[true, true, true, true, true, true, false, false, false, false, true, false, true, false, false, false, false, false, false, true, false, true, false, false, false, false, false, false, false, false] rfl rfl (any_of HT_.out (by kernel_rfl)) (fun _ _ _ h => h) (Or.inl ⟨by rfl, ?_⟩) ?_ ?_
                            rotate_left
                            · intro w'
                              go_simp
                              with_reducible rfl
                            rotate_left
                            · simp only [Act.put, List.setIfInBounds_toArray, List.set_cons_zero, List.set_cons_succ, i64_w, i32_w]
                              rfl
                            refine take_ (i := 6) (N := some 80) (v := ?_) (a' := ?_) #[true, true, true, true, true, true, true, false, false, false, true, false, true, false, false, false, false, false, false, true, false, true, false, false, false, false, false, false, false, false] rfl rfl (take_ofW HT_.out HW_.out (by kernel_rfl)) (fun _ _ _ h => h) (Or.inl ⟨by rfl, ?_⟩) hHeld ?_ ?_
                            rotate_left
                            · rintro w' ⟨s0, s1, s2, s3, s4, s5, s6, s7, s8, s9, s10, s11, s12, s13, s14, s15, s16⟩
                              go_simp
                              with_reducible rfl
                            rotate_left
                            · simp only [Act.put, List.setIfInBounds_toArray, List.set_cons_zero, List.set_cons_succ, i64_w, i32_w]
                              rfl
                            refine take_ (i := 11) (N := some 85) (v := ?_) (a' := ?_) #[true, true, true, true, true, true, true, false, false, false, true, true, true, false, false, false, false, false, false, true, false, true, false, false, false, false, false, false, false, false] rfl rfl (take_ofW HT_.out HW_.out (by kernel_rfl)) (fun _ _ _ h => h) (Or.inl ⟨by rfl, ?_⟩) hHeld ?_ ?_
                            rotate_left
                            · rintro w' ⟨s0, s1, s2, s3, s4, s5, s6, s7, s8, s9, s10, s11, s12, s13, s14, s15, s16⟩
                              go_simp
                              with_reducible rfl
                            rotate_left
                            · simp only [Act.put, List.setIfInBounds_toArray, List.set_cons_zero, List.set_cons_succ, i64_w, i32_w]
                              rfl
                            refine pure_ (i := 13) (N := some 87) (v := ?_) (a' := ?_) #[true, true, true, true, true, true, true, false, false, false, true, true, true, true, false, false, false, false, false, true, false, true, false, false, false, false, false, false, false, false] rfl rfl (any_of HT_.out (by kernel_rfl)) (fun _ _ _ h => h) (Or.inl ⟨by rfl, ?_⟩) ?_ ?_
                            rotate_left
                            · intro w'
                              go_simp
                              with_reducible rfl
                            rotate_left
                            · simp only [Act.put, List.setIfInBounds_toArray, List.set_cons_zero, List.set_cons_succ, i64_w, i32_w]
                              rfl
                            refine pure_ (i := 14) (N := some 88) (v := ?_) (a' := ?_) #[true, true, true, true, true, true, true, false, false, false, true, true, true, true, true, false, false, false, false, true, false, true, false, false, false, false, false, false, false, false] rfl rfl (any_of HT_.out (by kernel_rfl)) (fun _ _ _ h => h) (Or.inl ⟨by rfl, ?_⟩) ?_ ?_
                            rotate_left
                            · intro w'
                              go_simp
                              with_reducible rfl
                            rotate_left
                            · simp only [Act.put, List.setIfInBounds_toArray, List.set_cons_zero, List.set_cons_succ, i64_w, i32_w]
                              rfl
                            refine take_ (i := 15) (N := some 89) (v := ?_) (a' := ?_) #[true, true, true, true, true, true, true, false, false, false, true, true, true, true, true, true, false, false, false, true, false, true, false, false, false, false, false, false, false, false] rfl rfl (take_ofW HT_.out HW_.out (by kernel_rfl)) (fun _ _ _ h => h) (Or.inl ⟨by rfl, ?_⟩) hHeld ?_ ?_
                            rotate_left
                            · rintro w' ⟨s0, s1, s2, s3, s4, s5, s6, s7, s8, s9, s10, s11, s12, s13, s14, s15, s16⟩
                              go_simp
                              with_reducible rfl
                            rotate_left
                            · simp only [Act.put, List.setIfInBounds_toArray, List.set_cons_zero, List.set_cons_succ, i64_w, i32_w]
                              rfl
                            refine take_ (i := 20) (N := some 94) (v := ?_) (a' := ?_) #[true, true, true, true, true, true, true, false, false, false, true, true, true, true, true, true, false, false, false, true, true, true, false, false, false, false, false, false, false, false] rfl rfl (take_ofW HT_.out HW_.out (by kernel_rfl)) (fun _ _ _ h => h) (Or.inl ⟨by rfl, ?_⟩) hHeld ?_ ?_
                            rotate_left
                            · rintro w' ⟨s0, s1, s2, s3, s4, s5, s6, s7, s8, s9, s10, s11, s12, s13, s14, s15, s16⟩
                              go_simp
                              with_reducible rfl
                            rotate_left
                            · simp only [Act.put, List.setIfInBounds_toArray, List.set_cons_zero, List.set_cons_succ, i64_w, i32_w]
                              rfl
                            refine pure_ (i := 22) (N := some 96) (v := ?_) (a' := ?_) #[true, true, true, true, true, true, true, false, false, false, true, true, true, true, true, true, false, false, false, true, true, true, true, false, false, false, false, false, false, false] rfl rfl (any_of HT_.out (by kernel_rfl)) (fun _ _ _ h => h) (Or.inl ⟨by rfl, ?_⟩) ?_ ?_
                            rotate_left
                            · intro w'
                              go_simp
                              with_reducible rfl
                            rotate_left
                            · simp only [Act.put, List.setIfInBounds_toArray, List.set_cons_zero, List.set_cons_succ, i64_w, i32_w]
                              rfl
                            refine pure_ (i := 23) (N := some 97) (v := ?_) (a' := ?_) #[true, true, true, true, true, true, true, false, false, false, true, true, true, true, true, true, false, false, false, true, true, true, true, true, false, false, false, false, false, false] rfl rfl (any_of HT_.out (by kernel_rfl)) (fun _ _ _ h => h) (Or.inl ⟨by rfl, ?_⟩) ?_ ?_
                            rotate_left
                            · intro w'
                              go_simp
                              with_reducible rfl
                            rotate_left
                            · simp only [Act.put, List.setIfInBounds_toArray, List.set_cons_zero, List.set_cons_succ, i64_w, i32_w]
                              rfl
                            refine take_ (i := 24) (N := some 98) (v := ?_) (a' := ?_) #[true, true, true, true, true, true, true, false, false, false, true, true, true, true, true, true, false, false, false, true, true, true, true, true, true, false, false, false, false, false] rfl rfl (take_ofW HT_.out HW_.out (by kernel_rfl)) (fun _ _ _ h => h) (Or.inl ⟨by rfl, ?_⟩) hHeld ?_ ?_
                            rotate_left
                            · rintro w' ⟨s0, s1, s2, s3, s4, s5, s6, s7, s8, s9, s10, s11, s12, s13, s14, s15, s16⟩
                              go_simp
                              with_reducible rfl
                            rotate_left
                            · simp only [Act.put, List.setIfInBounds_toArray, List.set_cons_zero, List.set_cons_succ, i64_w, i32_w]
                              rfl
                            refine pure_ (i := 25) (N := some 99) (v := ?_) (a' := ?_) #[true, true, true, true, true, true, true, false, false, false, true, true, true, true, true, true, false, false, false, true, true, true, true, true, true, true, false, false, false, false] rfl rfl (any_of HT_.out (by kernel_rfl)) (fun _ _ _ h => h) (Or.inl ⟨by rfl, ?_⟩) ?_ ?_
                            rotate_left
                            · intro w'
                              go_simp
                              with_reducible rfl
                            rotate_left
                            · simp only [Act.put, List.setIfInBounds_toArray, List.set_cons_zero, List.set_cons_succ, i64_w, i32_w]
                              rfl
                            refine one_ (i := 7) (N := some 81) #[true, true, true, true, true, true, true, true, false, false, true, true, true, true, true, true, false, false, false, true, true, true, true, true, true, true, false, false, false, false] rfl rfl (one_of HT_.out (by kernel_rfl)) (by decide) (fun K hK => ?_)
                            refine goes_ Tryd.func61 (by kernel_rfl) rfl #[.string ((rd_T98 l0_3 x5_1).f0)] (by rfl) rfl rfl (by (try simp only [List.map_toArray, List.map_cons, List.map_nil]); first | done | rfl | (simp only [List.length_drop, List.length_take]; rfl)) ?_
                            with_reducible refine (cachepotref3_Hex.calls ((rd_T98 l0_3 x5_1).f0) t169 _ A36.out).mono ?_
                            rintro e w47 ⟨rfl, hb⟩
                            refine ⟨_, rfl, ?_⟩
                            have n0_ := Aside0.mk (blk_below (g := gb158) (o := .cells #[.int .i64 a0_0, .int .u32 a0_1, .slice A0_2 l0_2.length c0_2, .slice (some ad167) l0_3.length c0_3, .slice A0_4 l0_4.length c0_4] 43 (0, 0)) (by (with_reducible repeat (first | refine blk_drewN ?_ _ | refine blk_drew ?_ | refine blk_alloc ?_ _)); exact BK158.out) hb)
                            have n1_ := Aside0.mk (below_step (by repeat (first | (with_reducible first | exact HB.out | apply below_alloc | apply pw_below_drewN | apply below_drew1 | refine below_set ?_ GE158.out) | exact HB.out)) hb)
                            clear BK158
                            clear HB
                            have BK158 := n0_
                            have HB := n1_
                            clear n0_ n1_
                            (try clear hb)
                            (try clear hb2)
                            (try clear hk)
                            (try clear hi)
                            refine hK.out _ _ ⟨(blk_cell BK158.out 0).trans rfl, (blk_cell BK158.out 1).trans rfl, (blk_cell BK158.out 2).trans rfl, (blk_cell BK158.out 3).trans rfl, (blk_cell BK158.out 4).trans rfl, ((HB.out.cell (World.block_lt_of_cell? w _ hw168_0)).trans hw168_0), ((HB.out.cell (World.block_lt_of_cell? w _ hw168_1)).trans hw168_1), ((HB.out.cell (World.block_lt_of_cell? w _ hw168_2)).trans hw168_2), ((HB.out.cell (World.block_lt_of_cell? w _ hw168_3)).trans hw168_3), ((HB.out.cell (World.block_lt_of_cell? w _ hw170_0)).trans hw170_0), ((HB.out.cell (World.block_lt_of_cell? w _ hw170_1)).trans hw170_1), ((HB.out.cell (World.block_lt_of_cell? w _ hw170_2)).trans hw170_2), ((HB.out.cell (World.block_lt_of_cell? w _ hw170_3)).trans hw170_3), ((HB.out.cell (World.block_lt_of_cell? w _ hw172_0)).trans hw172_0), ((HB.out.cell (World.block_lt_of_cell? w _ hw172_1)).trans hw172_1), ((HB.out.cell (World.block_lt_of_cell? w _ hw172_2)).trans hw172_2), ((HB.out.cell (World.block_lt_of_cell? w _ hw172_3)).trans hw172_3)⟩ (fun hHeld => ?_)
                            clear hK K
                            refine norm_ (a' := ?_) ?_ ?_
                            rotate_left
                            · show Act.put _ (some 81) _ = _
                              simp only [Act.put, List.setIfInBounds_toArray, List.set_cons_zero, List.set_cons_succ, i64_w, i32_w]
                              rfl
                            refine pure_ (i := 8) (N := some 82) (v := ?_) (a' := ?_) #[true, true, true, true, true, true, true, true, true, false, true, true, true, true, true, true, false, false, false, true, true, true, true, true, true, true, false, false, false, false] rfl rfl (any_of HT_.out (by kernel_rfl)) (fun _ _ _ h => h) (Or.inl ⟨by rfl, ?_⟩) ?_ ?_
                            rotate_left
                            · intro w'
                              go_simp
                              with_reducible rfl
                            rotate_left
                            · simp only [Act.put, List.setIfInBounds_toArray, List.set_cons_zero, List.set_cons_succ, i64_w, i32_w]
                              rfl
                            refine pure_ (i := 9) (N := some 83) (v := ?_) (a' := ?_) #[true, true, true, true, true, true, true, true, true, true, true, true, true, true, true, true, false, false, false, true, true, true, true, true, true, true, false, false, false, false] rfl rfl (any_of HT_.out (by kernel_rfl)) (fun _ _ _ h => h) (Or.inl ⟨by rfl, ?_⟩) ?_ ?_
                            rotate_left
                            · intro w'
                              go_simp
                              with_reducible rfl
                            rotate_left
                            · simp only [Act.put, List.setIfInBounds_toArray, List.set_cons_zero, List.set_cons_succ, i64_w, i32_w]
                              rfl
                            refine one_ (i := 16) (N := some 90) #[true, true, true, true, true, true, true, true, true, true, true, true, true, true, true, true, true, false, false, true, true, true, true, true, true, true, false, false, false, false] rfl rfl (one_of HT_.out (by kernel_rfl)) (by decide) (fun K hK => ?_)
                            refine goes_ Tryd.func61 (by kernel_rfl) rfl #[.string ((rd_T98 l0_3 x5_1).f2)] (by rfl) rfl rfl (by (try simp only [List.map_toArray, List.map_cons, List.map_nil]); first | done | rfl | (simp only [List.length_drop, List.length_take]; rfl)) ?_
                            with_reducible refine (cachepotref3_Hex.calls ((rd_T98 l0_3 x5_1).f2) t171 _ A39.out).mono ?_
                            rintro e w48 ⟨rfl, hb⟩
                            refine ⟨_, rfl, ?_⟩
                            have n0_ := Aside0.mk (blk_below (g := gb158) (o := .cells #[.int .i64 a0_0, .int .u32 a0_1, .slice A0_2 l0_2.length c0_2, .slice (some ad167) l0_3.length c0_3, .slice A0_4 l0_4.length c0_4] 43 (0, 0)) (by (with_reducible repeat (first | refine blk_drewN ?_ _ | refine blk_drew ?_ | refine blk_alloc ?_ _)); exact BK158.out) hb)
                            have n1_ := Aside0.mk (below_step (by repeat (first | (with_reducible first | exact HB.out | apply below_alloc | apply pw_below_drewN | apply below_drew1 | refine below_set ?_ GE158.out) | exact HB.out)) hb)
                            clear BK158
                            clear HB
                            have BK158 := n0_
                            have HB := n1_
                            clear n0_ n1_
                            (try clear hb)
                            (try clear hb2)
                            (try clear hk)
                            (try clear hi)
                            refine hK.out _ _ ⟨(blk_cell BK158.out 0).trans rfl, (blk_cell BK158.out 1).trans rfl, (blk_cell BK158.out 2).trans rfl, (blk_cell BK158.out 3).trans rfl, (blk_cell BK158.out 4).trans rfl, ((HB.out.cell (World.block_lt_of_cell? w _ hw168_0)).trans hw168_0), ((HB.out.cell (World.block_lt_of_cell? w _ hw168_1)).trans hw168_1), ((HB.out.cell (World.block_lt_of_cell? w _ hw168_2)).trans hw168_2), ((HB.out.cell (World.block_lt_of_cell? w _ hw168_3)).trans hw168_3), ((HB.out.cell (World.block_lt_of_cell? w _ hw170_0)).trans hw170_0), ((HB.out.cell (World.block_lt_of_cell? w _ hw170_1)).trans hw170_1), ((HB.out.cell (World.block_lt_of_cell? w _ hw170_2)).trans hw170_2), ((HB.out.cell (World.block_lt_of_cell? w _ hw170_3)).trans hw170_3), ((HB.out.cell (World.block_lt_of_cell? w _ hw172_0)).trans hw172_0), ((HB.out.cell (World.block_lt_of_cell? w _ hw172_1)).trans hw172_1), ((HB.out.cell (World.block_lt_of_cell? w _ hw172_2)).trans hw172_2), ((HB.out.cell (World.block_lt_of_cell? w _ hw172_3)).trans hw172_3)⟩ (fun hHeld => ?_)
                            clear hK K
                            refine norm_ (a' := ?_) ?_ ?_
                            rotate_left
                            · show Act.put _ (some 90) _ = _
                              simp only [Act.put, List.setIfInBounds_toArray, List.set_cons_zero, List.set_cons_succ, i64_w, i32_w]
                              rfl
                            refine pure_ (i := 17) (N := some 91) (v := ?_) (a' := ?_) #[true, true, true, true, true, true, true, true, true, true, true, true, true, true, true, true, true, true, false, true, true, true, true, true, true, true, false, false, false, false] rfl rfl (any_of HT_.out (by kernel_rfl)) (fun _ _ _ h => h) (Or.inl ⟨by rfl, ?_⟩) ?_ ?_
                            rotate_left
                            · intro w'
                              go_simp
                              with_reducible rfl
                            rotate_left
                            · simp only [Act.put, List.setIfInBounds_toArray, List.set_cons_zero, List.set_cons_succ, i64_w, i32_w]
                              rfl
                            refine pure_ (i := 18) (N := some 92) (v := ?_) (a' := ?_) #[true, true, true, true, true, true, true, true, true, true, true, true, true, true, true, true, true, true, true, true, true, true, true, true, true, true, false, false, false, false] rfl rfl (any_of HT_.out (by kernel_rfl)) (fun _ _ _ h => h) (Or.inl ⟨by rfl, ?_⟩) ?_ ?_
                            rotate_left
                            · intro w'
                              go_simp
                              with_reducible rfl
                            rotate_left
                            · simp only [Act.put, List.setIfInBounds_toArray, List.set_cons_zero, List.set_cons_succ, i64_w, i32_w]
                              rfl
                            refine one_ (i := 26) (N := some 100) #[true, true, true, true, true, true, true, true, true, true, true, true, true, true, true, true, true, true, true, true, true, true, true, true, true, true, true, false, false, false] rfl rfl (one_of HT_.out (by kernel_rfl)) (by decide) (fun K hK => ?_)
                            refine goes_ Tryd.func51 (by kernel_rfl) rfl #[.int .i64 (wrap64 ((rd_T98 l0_3 x5_1).f3))] (by rfl) rfl rfl (by (try simp only [List.map_toArray, List.map_cons, List.map_nil]); first | done | rfl | (simp only [List.length_drop, List.length_take]; rfl)) ?_
                            with_reducible refine (cachepotref3_Digits.calls k1 (wrap64 ((rd_T98 l0_3 x5_1).f3)) t173 _ A42.out).mono ?_
                            rintro e w49 ⟨rfl, hb⟩
                            refine ⟨_, rfl, ?_⟩
                            have n0_ := Aside0.mk (blk_below (g := gb158) (o := .cells #[.int .i64 a0_0, .int .u32 a0_1, .slice A0_2 l0_2.length c0_2, .slice (some ad167) l0_3.length c0_3, .slice A0_4 l0_4.length c0_4] 43 (0, 0)) (by (with_reducible repeat (first | refine blk_drewN ?_ _ | refine blk_drew ?_ | refine blk_alloc ?_ _)); exact BK158.out) hb)
                            have n1_ := Aside0.mk (below_step (by repeat (first | (with_reducible first | exact HB.out | apply below_alloc | apply pw_below_drewN | apply below_drew1 | refine below_set ?_ GE158.out) | exact HB.out)) hb)
                            clear BK158
                            clear HB
                            have BK158 := n0_
                            have HB := n1_
                            clear n0_ n1_
                            (try clear hb)
                            (try clear hb2)
                            (try clear hk)
                            (try clear hi)
                            refine hK.out _ _ ⟨(blk_cell BK158.out 0).trans rfl, (blk_cell BK158.out 1).trans rfl, (blk_cell BK158.out 2).trans rfl, (blk_cell BK158.out 3).trans rfl, (blk_cell BK158.out 4).trans rfl, ((HB.out.cell (World.block_lt_of_cell? w _ hw168_0)).trans hw168_0), ((HB.out.cell (World.block_lt_of_cell? w _ hw168_1)).trans hw168_1), ((HB.out.cell (World.block_lt_of_cell? w _ hw168_2)).trans hw168_2), ((HB.out.cell (World.block_lt_of_cell? w _ hw168_3)).trans hw168_3), ((HB.out.cell (World.block_lt_of_cell? w _ hw170_0)).trans hw170_0), ((HB.out.cell (World.block_lt_of_cell? w _ hw170_1)).trans hw170_1), ((HB.out.cell (World.block_lt_of_cell? w _ hw170_2)).trans hw170_2), ((HB.out.cell (World.block_lt_of_cell? w _ hw170_3)).trans hw170_3), ((HB.out.cell (World.block_lt_of_cell? w _ hw172_0)).trans hw172_0), ((HB.out.cell (World.block_lt_of_cell? w _ hw172_1)).trans hw172_1), ((HB.out.cell (World.block_lt_of_cell? w _ hw172_2)).trans hw172_2), ((HB.out.cell (World.block_lt_of_cell? w _ hw172_3)).trans hw172_3)⟩ (fun hHeld => ?_)
                            clear hK K
                            refine norm_ (a' := ?_) ?_ ?_
                            rotate_left
                            · show Act.put _ (some 100) _ = _
                              simp only [Act.put, List.setIfInBounds_toArray, List.set_cons_zero, List.set_cons_succ, i64_w, i32_w]
                              rfl
                            refine pure_ (i := 27) (N := some 101) (v := ?_) (a' := ?_) #[true, true, true, true, true, true, true, true, true, true, true, true, true, true, true, true, true, true, true, true, true, true, true, true, true, true, true, true, false, false] rfl rfl (any_of HT_.out (by kernel_rfl)) (fun _ _ _ h => h) (Or.inl ⟨by rfl, ?_⟩) ?_ ?_
                            rotate_left
                            · intro w'
                              go_simp
                              with_reducible rfl
                            rotate_left
                            · simp only [Act.put, List.setIfInBounds_toArray, List.set_cons_zero, List.set_cons_succ, i64_w, i32_w]
                              rfl
                            refine pure_ (i := 28) (N := some 102) (v := ?_) (a' := ?_) #[true, true, true, true, true, true, true, true, true, true, true, true, true, true, true, true, true, true, true, true, true, true, true, true, true, true, true, true, true, false] rfl rfl (any_of HT_.out (by kernel_rfl)) (fun _ _ _ h => h) (Or.inl ⟨by rfl, ?_⟩) ?_ ?_
                            rotate_left
                            · intro w'
                              go_simp
                              with_reducible rfl
                            rotate_left
                            · simp only [Act.put, List.setIfInBounds_toArray, List.set_cons_zero, List.set_cons_succ, i64_w, i32_w]
                              rfl
                            refine pure_ (i := 29) (N := some 3) (v := ?_) (a' := ?_) #[true, true, true, true, true, true, true, true, true, true, true, true, true, true, true, true, true, true, true, true, true, true, true, true, true, true, true, true, true, true] rfl rfl (any_of HT_.out (by kernel_rfl)) (fun _ _ _ h => h) (Or.inl ⟨by rfl, ?_⟩) ?_ ?_
                            rotate_left
                            · intro w'
                              go_simp
                              with_reducible rfl
                            rotate_left
                            · simp only [Act.put, List.setIfInBounds_toArray, List.set_cons_zero, List.set_cons_succ, i64_w, i32_w]
                              rfl
                            refine done_ (done_of HT_.out (by kernel_rfl)) ?_
                            try go_wp2
                            go_roundg k1
                            case measure => have := HK1.out; omega
                            case rel => exact ⟨(x3_1 ++ ((((((⟨#[32]⟩ : ByteArray) ++ t169) ++ (⟨#[61]⟩ : ByteArray)) ++ t171) ++ (⟨#[64]⟩ : ByteArray)) ++ t173)), (wrap64 (x5_1 + 1)), (by first | rfl | (simp; done) | (simp [*]; done)), (by first | rfl | (simp; done) | (simp [*]; done)), H', ⟨by have := HK1.out; omega⟩, ⟨by (with_reducible repeat (first | refine blk_drewN ?_ _ | refine blk_drew ?_ | refine blk_alloc ?_ _)); exact BK158.out⟩, ⟨by repeat (first | (with_reducible first | exact HB.out | apply below_alloc | apply pw_below_drewN | apply below_drew1 | refine below_set ?_ GE158.out) | exact HB.out)⟩⟩
                          · rw [if_neg c44] at H
                            exact absurd H (by simp)
                        · rw [if_neg c43] at H
                          exact absurd H (by simp)
                      · rw [if_neg c41] at H
                        exact absurd H (by simp)
                    · rw [if_neg c40] at H
                      exact absurd H (by simp)
                  · rw [if_neg c38] at H
                    exact absurd H (by simp)
                · rw [if_neg c37] at H
                  exact absurd H (by simp)
              · replace c35 := Bool.eq_false_iff.mpr c35
                subst c35
                have H1 : ((cachepotref3_Hex.f ((rd_T98 l0_3 x5_1).f0)).bind fun t175 => (if 1 + t175.size ≤ 9223372036854775807 then (if ((⟨#[32]⟩ : ByteArray) ++ t175).size + 1 ≤ 9223372036854775807 then (if x3_1.size + (((⟨#[32]⟩ : ByteArray) ++ t175) ++ (⟨#[63]⟩ : ByteArray)).size ≤ 9223372036854775807 then (cachepotref3_Line.l1 k1 (x3_1 ++ (((⟨#[32]⟩ : ByteArray) ++ t175) ++ (⟨#[63]⟩ : ByteArray))) (wrap64 (x5_1 + 1)) a0_0 a0_1 l0_2 l0_3 l0_4) else (none)) else (none)) else (none))) = some r := by rw [if_neg (show ¬ (false = true) by decide)] at H; exact H
                clear H
                have H := H1
                clear H1
                replace H := Option.bind_eq_some_iff.mp H
                obtain ⟨t175, A500, H⟩ := H
                replace H : (if 1 + t175.size ≤ 9223372036854775807 then (if ((⟨#[32]⟩ : ByteArray) ++ t175).size + 1 ≤ 9223372036854775807 then (if x3_1.size + (((⟨#[32]⟩ : ByteArray) ++ t175) ++ (⟨#[63]⟩ : ByteArray)).size ≤ 9223372036854775807 then (cachepotref3_Line.l1 k1 (x3_1 ++ (((⟨#[32]⟩ : ByteArray) ++ t175) ++ (⟨#[63]⟩ : ByteArray))) (wrap64 (x5_1 + 1)) a0_0 a0_1 l0_2 l0_3 l0_4) else (none)) else (none)) else (none)) = some r := H
                have A50 := Aside0.mk A500
                clear A500
                by_cases c51 : 1 + t175.size ≤ 9223372036854775807
                · rw [if_pos c51] at H
                  have c51b0 := eq_true c51
                  have c51b1 : decide (1 + t175.size ≤ 9223372036854775807) = true := decide_eq_true c51
                  try have c51b2 : (9223372036854775807 < 1 + t175.size) = False := eq_false (Nat.not_lt.2 c51)
                  by_cases c52 : ((⟨#[32]⟩ : ByteArray) ++ t175).size + 1 ≤ 9223372036854775807
                  · rw [if_pos c52] at H
                    have c52b0 := eq_true c52
                    have c52b1 : decide (((⟨#[32]⟩ : ByteArray) ++ t175).size + 1 ≤ 9223372036854775807) = true := decide_eq_true c52
                    try have c52b2 : (9223372036854775807 < ((⟨#[32]⟩ : ByteArray) ++ t175).size + 1) = False := eq_false (Nat.not_lt.2 c52)
                    try have c52b9 : (9223372036854775807 < 1 + t175.size + 1) = False := by (have h_ := c52b2; rw [ByteArray.size_append] at h_; exact h_)
                    by_cases c53 : x3_1.size + (((⟨#[32]⟩ : ByteArray) ++ t175) ++ (⟨#[63]⟩ : ByteArray)).size ≤ 9223372036854775807
                    · rw [if_pos c53] at H
                      have c53b0 := eq_true c53
                      have c53b1 : decide (x3_1.size + (((⟨#[32]⟩ : ByteArray) ++ t175) ++ (⟨#[63]⟩ : ByteArray)).size ≤ 9223372036854775807) = true := decide_eq_true c53
                      try have c53b2 : (9223372036854775807 < x3_1.size + (((⟨#[32]⟩ : ByteArray) ++ t175) ++ (⟨#[63]⟩ : ByteArray)).size) = False := eq_false (Nat.not_lt.2 c53)
                      try have c53b9 : (9223372036854775807 < x3_1.size + (1 + t175.size + 1)) = False := by (have h_ := c53b2; rw [ByteArray.size_append] at h_; rw [ByteArray.size_append] at h_; exact h_)
                      have H' := Aside0.mk H
                      clear H
                      have hcz54_0 : wr.cell? ⟨gb158, 0, none⟩ = some (.int .i64 a0_0) := (blk_cell BK158.out 0).trans rfl
                      have hcz54_1 : wr.cell? ⟨gb158, 1, none⟩ = some (.int .u32 a0_1) := (blk_cell BK158.out 1).trans rfl
                      have hcz54_2 : wr.cell? ⟨gb158, 2, none⟩ = some (.slice A0_2 l0_2.length c0_2) := (blk_cell BK158.out 2).trans rfl
                      have hcz54_3 : wr.cell? ⟨gb158, 3, none⟩ = some (.slice A0_3 l0_3.length c0_3) := (blk_cell BK158.out 3).trans rfl
                      have hcz54_4 : wr.cell? ⟨gb158, 4, none⟩ = some (.slice A0_4 l0_4.length c0_4) := (blk_cell BK158.out 4).trans rfl
                      have hfz54_0 := blk_frozen BK158.out 0
                      have hfz54_1 := blk_frozen BK158.out 1
                      have hfz54_2 := blk_frozen BK158.out 2
                      have hfz54_3 := blk_frozen BK158.out 3
                      have hfz54_4 := blk_frozen BK158.out 4
                      have p167 : 0 ≤ (x5_1 : Int) := of_decide_eq_true (by first | (with_reducible assumption) | assumption)
                      have q167 : x5_1 < (l0_3.length : Int) := of_decide_eq_true (by first | (with_reducible assumption) | assumption)
                      obtain ⟨ad167, e167, hx167_0, hx167_1, hx167_2, hx167_3⟩ := at_T98 HR0_3.out x5_1 p167 q167
                      (try rw [← Nbq34.out] at hx167_1)
                      (try rw [← Nbq34.out] at hw167_1)
                      cases e167
                      replace hx167_0 := (HB.out.cell (World.block_lt_of_cell? w _ hx167_0)).trans hx167_0
                      replace hx167_1 := (HB.out.cell (World.block_lt_of_cell? w _ hx167_1)).trans hx167_1
                      replace hx167_2 := (HB.out.cell (World.block_lt_of_cell? w _ hx167_2)).trans hx167_2
                      replace hx167_3 := (HB.out.cell (World.block_lt_of_cell? w _ hx167_3)).trans hx167_3
                      replace p167 := eq_true p167
                      replace q167 := eq_true q167
                      have p174 : 0 ≤ (x5_1 : Int) := of_decide_eq_true (by first | (with_reducible assumption) | assumption)
                      have q174 : x5_1 < (l0_3.length : Int) := of_decide_eq_true (by first | (with_reducible assumption) | assumption)
                      obtain ⟨ad174, e174, hx174_0, hx174_1, hx174_2, hx174_3⟩ := at_T98 HR0_3.out x5_1 p174 q174
                      (try rw [← Nbq34.out] at hx174_1)
                      (try rw [← Nbq34.out] at hw174_1)
                      obtain rfl : ad167 = ad174 := (by injection e174)
                      replace hx174_0 := (HB.out.cell (World.block_lt_of_cell? w _ hx174_0)).trans hx174_0
                      replace hx174_1 := (HB.out.cell (World.block_lt_of_cell? w _ hx174_1)).trans hx174_1
                      replace hx174_2 := (HB.out.cell (World.block_lt_of_cell? w _ hx174_2)).trans hx174_2
                      replace hx174_3 := (HB.out.cell (World.block_lt_of_cell? w _ hx174_3)).trans hx174_3
                      replace p174 := eq_true p174
                      replace q174 := eq_true q174
                      go_wp2_with (first | ((with_reducible refine gate_callee (f := 61) rfl ?_); refine goesL_ (some 110) rfl rfl Tryd.func61 (by kernel_rfl) rfl #[.string ((rd_T98 l0_3 x5_1).f0)] rfl (by (try simp only [List.map_toArray, List.map_cons, List.map_nil]); first | done | rfl | (simp only [List.length_drop, List.length_take]; rfl)) ?_; (with_reducible refine (cachepotref3_Hex.calls ((rd_T98 l0_3 x5_1).f0) t175 _ A50.out).mono ?_); rintro e w55 ⟨rfl, hb⟩; refine ⟨_, rfl, ?_⟩; have n0_ := Aside0.mk (blk_below (g := gb158) (o := .cells #[.int .i64 a0_0, .int .u32 a0_1, .slice A0_2 l0_2.length c0_2, .slice (some ad167) l0_3.length c0_3, .slice A0_4 l0_4.length c0_4] 43 (0, 0)) (by (with_reducible repeat (first | refine blk_drewN ?_ _ | refine blk_drew ?_ | refine blk_alloc ?_ _)); exact BK158.out) hb); have n1_ := Aside0.mk (below_step (by repeat (first | (with_reducible first | exact HB.out | apply below_alloc | apply pw_below_drewN | apply below_drew1 | refine below_set ?_ GE158.out) | exact HB.out)) hb); clear BK158; clear HB; have BK158 := n0_; have HB := n1_; clear n0_ n1_; (try clear hb); (try clear hb2); (try clear hk); (try clear hi)))
                      go_roundg k1
                      case measure => have := HK1.out; omega
                      case rel => exact ⟨(x3_1 ++ (((⟨#[32]⟩ : ByteArray) ++ t175) ++ (⟨#[63]⟩ : ByteArray))), (wrap64 (x5_1 + 1)), (by first | rfl | (simp; done) | (simp [*]; done)), (by first | rfl | (simp; done) | (simp [*]; done)), H', ⟨by have := HK1.out; omega⟩, ⟨by (with_reducible repeat (first | refine blk_drewN ?_ _ | refine blk_drew ?_ | refine blk_alloc ?_ _)); exact BK158.out⟩, ⟨by repeat (first | (with_reducible first | exact HB.out | apply below_alloc | apply pw_below_drewN | apply below_drew1 | refine below_set ?_ GE158.out) | exact HB.out)⟩⟩
                    · rw [if_neg c53] at H
                      exact absurd H (by simp)
                  · rw [if_neg c52] at H
                    exact absurd H (by simp)
                · rw [if_neg c51] at H
                  exact absurd H (by simp)
            · rw [if_neg c33] at H
              exact absurd H (by simp)
          · rw [if_neg c32] at H
            have c32b0 : decide (x5_1 < (l0_3.length : Int)) = false := decide_eq_false c32
            clear c32
            obtain rfl := Option.some.inj H
            have hcz56_0 : wr.cell? ⟨gb158, 0, none⟩ = some (.int .i64 a0_0) := (blk_cell BK158.out 0).trans rfl
            have hcz56_1 : wr.cell? ⟨gb158, 1, none⟩ = some (.int .u32 a0_1) := (blk_cell BK158.out 1).trans rfl
            have hcz56_2 : wr.cell? ⟨gb158, 2, none⟩ = some (.slice A0_2 l0_2.length c0_2) := (blk_cell BK158.out 2).trans rfl
            have hcz56_3 : wr.cell? ⟨gb158, 3, none⟩ = some (.slice A0_3 l0_3.length c0_3) := (blk_cell BK158.out 3).trans rfl
            have hcz56_4 : wr.cell? ⟨gb158, 4, none⟩ = some (.slice A0_4 l0_4.length c0_4) := (blk_cell BK158.out 4).trans rfl
            have hfz56_0 := blk_frozen BK158.out 0
            have hfz56_1 := blk_frozen BK158.out 1
            have hfz56_2 := blk_frozen BK158.out 2
            have hfz56_3 := blk_frozen BK158.out 3
            have hfz56_4 := blk_frozen BK158.out 4
            go_wp2
            go_ret
            exact ⟨by first | rfl | (simp [errW_none, errW_some] <;> rfl) | (simp [*, errW_none, errW_some] <;> rfl), by repeat (first | (with_reducible first | exact HB.out | apply below_alloc | apply pw_below_drewN | apply below_drew1 | refine below_set ?_ GE158.out) | exact HB.out)⟩
    · rw [if_neg c29] at H
      have c29b0 : (a0_0 == 2) = false := beq_eq_false_iff_ne.mpr c29
      have c29b1 : (a0_0 != 2) = true := bne_iff_ne.mpr c29
      by_cases c57 : a0_0 = 3
      · rw [if_pos c57] at H
        have c57b0 : (a0_0 == 3) = true := beq_iff_eq.mpr c57
        have c57b1 : (a0_0 != 3) = false := bne_eq_false_iff_eq.mpr c57
        clear c57
        have H' := Aside0.mk H
        clear H
        go_enter Tryd.func33, Tryd.ntmps33
        go_wp2_with (first | ((with_reducible refine gate_dst (N := 1) rfl ?_); refine box_event ?hg (N := 1) ?hd (cs := #[.int .i64 a0_0, .int .u32 a0_1, .slice A0_2 l0_2.length c0_2, .slice A0_3 l0_3.length c0_3, .slice A0_4 l0_4.length c0_4]) (t := 43) ?hr ?_; (case hd => rfl); (case hg => rfl); (case hr => first | (go_simp; done) | (go_simp; rfl)); intro gb158 hg w58 hbox hb; have n0_ := Aside0.mk (below_step (by repeat (first | (with_reducible first | exact HB.out | apply below_alloc | apply pw_below_drewN | apply below_drew1) | exact HB.out)) hb); have n1_ := Aside0.mk (hbox); have n2_ := Aside0.mk ((by rw [hg]; exact (below_size (by repeat (first | (with_reducible first | exact HB.out | apply below_alloc | apply pw_below_drewN | apply below_drew1) | exact HB.out))) : w.heap.size ≤ gb158)); have n3_ := Aside0.mk ((by rw [hg]; exact (below_size (by repeat (first | (with_reducible first | exact HB.out | apply below_alloc | apply pw_below_drewN | apply below_drew1) | exact HB.out))) : w.heap.size ≤ gb158)); clear HB; have HB := n0_; have BK158 := n1_; have GW158 := n2_; have GE158 := n3_; clear n0_ n1_ n2_ n3_; clear hb hbox hg; have hcz59_0 : w58.cell? ⟨gb158, 0, none⟩ = some (.int .i64 a0_0) := (blk_cell BK158.out 0).trans rfl; have hcz59_1 : w58.cell? ⟨gb158, 1, none⟩ = some (.int .u32 a0_1) := (blk_cell BK158.out 1).trans rfl; have hcz59_2 : w58.cell? ⟨gb158, 2, none⟩ = some (.slice A0_2 l0_2.length c0_2) := (blk_cell BK158.out 2).trans rfl; have hcz59_3 : w58.cell? ⟨gb158, 3, none⟩ = some (.slice A0_3 l0_3.length c0_3) := (blk_cell BK158.out 3).trans rfl; have hcz59_4 : w58.cell? ⟨gb158, 4, none⟩ = some (.slice A0_4 l0_4.length c0_4) := (blk_cell BK158.out 4).trans rfl; have hfz59_0 := blk_frozen BK158.out 0; have hfz59_1 := blk_frozen BK158.out 1; have hfz59_2 := blk_frozen BK158.out 2; have hfz59_3 := blk_frozen BK158.out 3; have hfz59_4 := blk_frozen BK158.out 4))
        go_loopg [3, 6] k (fun kq v3 v6 w' => ∃ (x3_1 : ByteArray) (x6_1 : Int), v3 = .string x3_1 ∧ v6 = .int .i64 x6_1 ∧ Aside0 (cachepotref3_Line.l2 kq x3_1 x6_1 a0_0 a0_1 l0_2 l0_3 l0_4 = some r) ∧ Aside0 (kq ≤ k) ∧ Aside0 (w'.heap[gb158]? = some (.cells #[.int .i64 a0_0, .int .u32 a0_1, (.slice A0_2 l0_2.length c0_2), (.slice A0_3 l0_3.length c0_3), (.slice A0_4 l0_4.length c0_4)] 43 (0, 0))) ∧ Aside0 (Below w.heap.size w w'))
        case atStart => exact ⟨((⟨#[102, 111, 114, 103, 111, 116]⟩ : ByteArray)), (0), (by first | rfl | (simp; done) | (simp [*]; done)), (by first | rfl | (simp; done) | (simp [*]; done)), H', ⟨Nat.le_refl _⟩, ⟨by (with_reducible repeat (first | refine blk_drewN ?_ _ | refine blk_drew ?_ | refine blk_alloc ?_ _)); exact BK158.out⟩, ⟨by repeat (first | (with_reducible first | exact HB.out | apply below_alloc | apply pw_below_drewN | apply below_drew1 | refine below_set ?_ GE158.out) | exact HB.out)⟩⟩
        case round =>
          clear H'
          try clear p1
          try clear q1
          try clear hx1
          try clear c2
          try clear p2
          try clear c3
          try clear q3
          try clear c4
          try clear c5
          try clear c6
          try clear p6
          try clear p16
          try clear q16
          try clear hx16
          try clear p17
          try clear q17
          try clear hx17
          try clear c29
          try clear c29b0
          try clear c29b1
          try clear c32
          try clear c32b0
          try clear c33
          try clear c33b0
          try clear q34
          try clear c35
          try clear c37
          try clear c37b0
          try clear c37b1
          try clear c37b2
          try clear c38
          try clear c38b0
          try clear c38b1
          try clear c38b2
          try clear c40
          try clear c40b0
          try clear c40b1
          try clear c40b2
          try clear c41
          try clear c41b0
          try clear c41b1
          try clear c41b2
          try clear c43
          try clear c43b0
          try clear c43b1
          try clear c43b2
          try clear c44
          try clear c44b0
          try clear c44b1
          try clear c44b2
          try clear c51
          try clear c51b0
          try clear c51b1
          try clear c51b2
          try clear c52
          try clear c52b0
          try clear c52b1
          try clear c52b2
          try clear c53
          try clear c53b0
          try clear c53b1
          try clear c53b2
          try clear c57
          try clear c57b0
          try clear c57b1
          try clear hcz45_0
          try clear hcz45_1
          try clear hcz45_2
          try clear hcz45_3
          try clear hcz45_4
          try clear hcz54_0
          try clear hcz54_1
          try clear hcz54_2
          try clear hcz54_3
          try clear hcz54_4
          try clear hcz56_0
          try clear hcz56_1
          try clear hcz56_2
          try clear hcz56_3
          try clear hcz56_4
          try clear hcz59_0
          try clear hcz59_1
          try clear hcz59_2
          try clear hcz59_3
          try clear hcz59_4
          try clear hfz16_2
          try clear hfz16_3
          try clear hfz16_4
          try clear hfz24_0
          try clear hfz24_1
          try clear hfz24_2
          try clear hfz24_3
          try clear hfz24_4
          try clear hfz28_0
          try clear hfz28_1
          try clear hfz28_2
          try clear hfz28_3
          try clear hfz28_4
          try clear hfz31_0
          try clear hfz31_1
          try clear hfz31_2
          try clear hfz31_3
          try clear hfz31_4
          try clear hfz45_0
          try clear hfz45_1
          try clear hfz45_2
          try clear hfz45_3
          try clear hfz45_4
          try clear hfz54_0
          try clear hfz54_1
          try clear hfz54_2
          try clear hfz54_3
          try clear hfz54_4
          try clear hfz56_0
          try clear hfz56_1
          try clear hfz56_2
          try clear hfz56_3
          try clear hfz56_4
          try clear hfz59_0
          try clear hfz59_1
          try clear hfz59_2
          try clear hfz59_3
          try clear hfz59_4
          try clear hfz6_0
          try clear hfz6_1
          try clear hfz6_2
          try clear hfz6_3
          try clear hfz6_4
          try clear hx160_0
          try clear hx160_1
          try clear hx160_2
          try clear hx161_0
          try clear hx161_1
          try clear hx161_2
          try clear hx163_0
          try clear hx163_1
          try clear hx163_2
          try clear hx165_0
          try clear hx165_1
          try clear hx165_2
          try clear hx167_0
          try clear hx167_1
          try clear hx167_2
          try clear hx167_3
          try clear hx168_0
          try clear hx168_1
          try clear hx168_2
          try clear hx168_3
          try clear hx170_0
          try clear hx170_1
          try clear hx170_2
          try clear hx170_3
          try clear hx172_0
          try clear hx172_1
          try clear hx172_2
          try clear hx172_3
          try clear hx174_0
          try clear hx174_1
          try clear hx174_2
          try clear hx174_3
          try clear p160
          try clear p161
          try clear p163
          try clear p165
          try clear p167
          try clear p168
          try clear p170
          try clear p172
          try clear p174
          try clear p2
          try clear p6
          try clear q160
          try clear q161
          try clear q163
          try clear q165
          try clear q167
          try clear q168
          try clear q170
          try clear q172
          try clear q174
          obtain ⟨x3_1, x6_1, rfl, rfl, HA, HK1, BK158, HB⟩ := hrel
          cases gk with
          | zero => exact absurd HA.out (by simp [cachepotref3_Line.l2])
          | succ k1 =>
            have H := HA.out
            clear HA
            simp only [cachepotref3_Line.l2] at H
            by_cases c60 : x6_1 < (l0_4.length : Int)
            · rw [if_pos c60] at H
              have c60b0 : decide (x6_1 < (l0_4.length : Int)) = true := decide_eq_true c60
              clear c60
              by_cases c61 : 0 ≤ x6_1
              · rw [if_pos c61] at H
                have c61b0 : decide (0 ≤ x6_1) = true := decide_eq_true c61
                clear c61
                replace H := Option.bind_eq_some_iff.mp H
                obtain ⟨t177, A620, H⟩ := H
                replace H : (if 1 + t177.size ≤ 9223372036854775807 then (if x3_1.size + ((⟨#[32]⟩ : ByteArray) ++ t177).size ≤ 9223372036854775807 then (cachepotref3_Line.l2 k1 (x3_1 ++ ((⟨#[32]⟩ : ByteArray) ++ t177)) (wrap64 (x6_1 + 1)) a0_0 a0_1 l0_2 l0_3 l0_4) else (none)) else (none)) = some r := H
                have A62 := Aside0.mk A620
                clear A620
                by_cases c63 : 1 + t177.size ≤ 9223372036854775807
                · rw [if_pos c63] at H
                  have c63b0 := eq_true c63
                  have c63b1 : decide (1 + t177.size ≤ 9223372036854775807) = true := decide_eq_true c63
                  try have c63b2 : (9223372036854775807 < 1 + t177.size) = False := eq_false (Nat.not_lt.2 c63)
                  by_cases c64 : x3_1.size + ((⟨#[32]⟩ : ByteArray) ++ t177).size ≤ 9223372036854775807
                  · rw [if_pos c64] at H
                    have c64b0 := eq_true c64
                    have c64b1 : decide (x3_1.size + ((⟨#[32]⟩ : ByteArray) ++ t177).size ≤ 9223372036854775807) = true := decide_eq_true c64
                    try have c64b2 : (9223372036854775807 < x3_1.size + ((⟨#[32]⟩ : ByteArray) ++ t177).size) = False := eq_false (Nat.not_lt.2 c64)
                    try have c64b9 : (9223372036854775807 < x3_1.size + (1 + t177.size)) = False := by (have h_ := c64b2; rw [ByteArray.size_append] at h_; exact h_)
                    have H' := Aside0.mk H
                    clear H
                    have hcz65_0 : wr.cell? ⟨gb158, 0, none⟩ = some (.int .i64 a0_0) := (blk_cell BK158.out 0).trans rfl
                    have hcz65_1 : wr.cell? ⟨gb158, 1, none⟩ = some (.int .u32 a0_1) := (blk_cell BK158.out 1).trans rfl
                    have hcz65_2 : wr.cell? ⟨gb158, 2, none⟩ = some (.slice A0_2 l0_2.length c0_2) := (blk_cell BK158.out 2).trans rfl
                    have hcz65_3 : wr.cell? ⟨gb158, 3, none⟩ = some (.slice A0_3 l0_3.length c0_3) := (blk_cell BK158.out 3).trans rfl
                    have hcz65_4 : wr.cell? ⟨gb158, 4, none⟩ = some (.slice A0_4 l0_4.length c0_4) := (blk_cell BK158.out 4).trans rfl
                    have hfz65_0 := blk_frozen BK158.out 0
                    have hfz65_1 := blk_frozen BK158.out 1
                    have hfz65_2 := blk_frozen BK158.out 2
                    have hfz65_3 := blk_frozen BK158.out 3
                    have hfz65_4 := blk_frozen BK158.out 4
                    have p176 : 0 ≤ (x6_1 : Int) := of_decide_eq_true (by first | (with_reducible assumption) | assumption)
                    have q176 : x6_1 < (l0_4.length : Int) := of_decide_eq_true (by first | (with_reducible assumption) | assumption)
                    obtain ⟨ad176, e176, hx176_0⟩ := Kd.at_string HR0_4.out x6_1 p176 q176
                    cases e176
                    replace hx176_0 := (HB.out.cell (World.block_lt_of_cell? w _ hx176_0)).trans hx176_0
                    replace p176 := eq_true p176
                    replace q176 := eq_true q176
                    go_wp2_with (first | ((with_reducible refine gate_callee (f := 61) rfl ?_); refine goesL_ (some 129) rfl rfl Tryd.func61 (by kernel_rfl) rfl #[.string (rdOf ByteArray.empty l0_4 x6_1)] rfl (by (try simp only [List.map_toArray, List.map_cons, List.map_nil]); first | done | rfl | (simp only [List.length_drop, List.length_take]; rfl)) ?_; (with_reducible refine (cachepotref3_Hex.calls (rdOf ByteArray.empty l0_4 x6_1) t177 _ A62.out).mono ?_); rintro e w66 ⟨rfl, hb⟩; refine ⟨_, rfl, ?_⟩; have n0_ := Aside0.mk (blk_below (g := gb158) (o := .cells #[.int .i64 a0_0, .int .u32 a0_1, .slice A0_2 l0_2.length c0_2, .slice A0_3 l0_3.length c0_3, .slice (some ad176) l0_4.length c0_4] 43 (0, 0)) (by (with_reducible repeat (first | refine blk_drewN ?_ _ | refine blk_drew ?_ | refine blk_alloc ?_ _)); exact BK158.out) hb); have n1_ := Aside0.mk (below_step (by repeat (first | (with_reducible first | exact HB.out | apply below_alloc | apply pw_below_drewN | apply below_drew1 | refine below_set ?_ GE158.out) | exact HB.out)) hb); clear BK158; clear HB; have BK158 := n0_; have HB := n1_; clear n0_ n1_; (try clear hb); (try clear hb2); (try clear hk); (try clear hi)))
                    go_roundg k1
                    case measure => have := HK1.out; omega
                    case rel => exact ⟨(x3_1 ++ ((⟨#[32]⟩ : ByteArray) ++ t177)), (wrap64 (x6_1 + 1)), (by first | rfl | (simp; done) | (simp [*]; done)), (by first | rfl | (simp; done) | (simp [*]; done)), H', ⟨by have := HK1.out; omega⟩, ⟨by (with_reducible repeat (first | refine blk_drewN ?_ _ | refine blk_drew ?_ | refine blk_alloc ?_ _)); exact BK158.out⟩, ⟨by repeat (first | (with_reducible first | exact HB.out | apply below_alloc | apply pw_below_drewN | apply below_drew1 | refine below_set ?_ GE158.out) | exact HB.out)⟩⟩
                  · rw [if_neg c64] at H
                    exact absurd H (by simp)
                · rw [if_neg c63] at H
                  exact absurd H (by simp)
              · rw [if_neg c61] at H
                exact absurd H (by simp)
            · rw [if_neg c60] at H
              have c60b0 : decide (x6_1 < (l0_4.length : Int)) = false := decide_eq_false c60
              clear c60
              obtain rfl := Option.some.inj H
              have hcz67_0 : wr.cell? ⟨gb158, 0, none⟩ = some (.int .i64 a0_0) := (blk_cell BK158.out 0).trans rfl
              have hcz67_1 : wr.cell? ⟨gb158, 1, none⟩ = some (.int .u32 a0_1) := (blk_cell BK158.out 1).trans rfl
              have hcz67_2 : wr.cell? ⟨gb158, 2, none⟩ = some (.slice A0_2 l0_2.length c0_2) := (blk_cell BK158.out 2).trans rfl
              have hcz67_3 : wr.cell? ⟨gb158, 3, none⟩ = some (.slice A0_3 l0_3.length c0_3) := (blk_cell BK158.out 3).trans rfl
              have hcz67_4 : wr.cell? ⟨gb158, 4, none⟩ = some (.slice A0_4 l0_4.length c0_4) := (blk_cell BK158.out 4).trans rfl
              have hfz67_0 := blk_frozen BK158.out 0
              have hfz67_1 := blk_frozen BK158.out 1
              have hfz67_2 := blk_frozen BK158.out 2
              have hfz67_3 := blk_frozen BK158.out 3
              have hfz67_4 := blk_frozen BK158.out 4
              go_wp2
              go_ret
              exact ⟨by first | rfl | (simp [errW_none, errW_some] <;> rfl) | (simp [*, errW_none, errW_some] <;> rfl), by repeat (first | (with_reducible first | exact HB.out | apply below_alloc | apply pw_below_drewN | apply below_drew1 | refine below_set ?_ GE158.out) | exact HB.out)⟩
      · rw [if_neg c57] at H
        have c57b0 : (a0_0 == 3) = false := beq_eq_false_iff_ne.mpr c57
        have c57b1 : (a0_0 != 3) = true := bne_iff_ne.mpr c57
        obtain rfl := Option.some.inj H
        go_enter Tryd.func33, Tryd.ntmps33
        go_wp2_with (first | ((with_reducible refine gate_dst (N := 1) rfl ?_); refine box_event ?hg (N := 1) ?hd (cs := #[.int .i64 a0_0, .int .u32 a0_1, .slice A0_2 l0_2.length c0_2, .slice A0_3 l0_3.length c0_3, .slice A0_4 l0_4.length c0_4]) (t := 43) ?hr ?_; (case hd => rfl); (case hg => rfl); (case hr => first | (go_simp; done) | (go_simp; rfl)); intro gb158 hg w68 hbox hb; have n0_ := Aside0.mk (below_step (by repeat (first | (with_reducible first | exact HB.out | apply below_alloc | apply pw_below_drewN | apply below_drew1) | exact HB.out)) hb); have n1_ := Aside0.mk (hbox); have n2_ := Aside0.mk ((by rw [hg]; exact (below_size (by repeat (first | (with_reducible first | exact HB.out | apply below_alloc | apply pw_below_drewN | apply below_drew1) | exact HB.out))) : w.heap.size ≤ gb158)); have n3_ := Aside0.mk ((by rw [hg]; exact (below_size (by repeat (first | (with_reducible first | exact HB.out | apply below_alloc | apply pw_below_drewN | apply below_drew1) | exact HB.out))) : w.heap.size ≤ gb158)); clear HB; have HB := n0_; have BK158 := n1_; have GW158 := n2_; have GE158 := n3_; clear n0_ n1_ n2_ n3_; clear hb hbox hg; have hcz69_0 : w68.cell? ⟨gb158, 0, none⟩ = some (.int .i64 a0_0) := (blk_cell BK158.out 0).trans rfl; have hcz69_1 : w68.cell? ⟨gb158, 1, none⟩ = some (.int .u32 a0_1) := (blk_cell BK158.out 1).trans rfl; have hcz69_2 : w68.cell? ⟨gb158, 2, none⟩ = some (.slice A0_2 l0_2.length c0_2) := (blk_cell BK158.out 2).trans rfl; have hcz69_3 : w68.cell? ⟨gb158, 3, none⟩ = some (.slice A0_3 l0_3.length c0_3) := (blk_cell BK158.out 3).trans rfl; have hcz69_4 : w68.cell? ⟨gb158, 4, none⟩ = some (.slice A0_4 l0_4.length c0_4) := (blk_cell BK158.out 4).trans rfl; have hfz69_0 := blk_frozen BK158.out 0; have hfz69_1 := blk_frozen BK158.out 1; have hfz69_2 := blk_frozen BK158.out 2; have hfz69_3 := blk_frozen BK158.out 3; have hfz69_4 := blk_frozen BK158.out 4))
        go_ret
        exact ⟨by first | rfl | (simp [errW_none, errW_some] <;> rfl) | (simp [*, errW_none, errW_some] <;> rfl), by repeat (first | (with_reducible first | exact HB.out | apply below_alloc | apply pw_below_drewN | apply below_drew1 | refine below_set ?_ GE158.out) | exact HB.out)⟩

end Go.Proofs.YtfaelejeihmgcaaDoor.Lgx
