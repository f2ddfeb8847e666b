-- printed by a program of mine (pp.py) over the kit's print.py: functions of the laws of chapter 25 in one namespace; some of their callees are proved by hand (YtfaelejeihmgcaaDoorHand..)
import Derived.Test.YtfaelejeihmgcaaDoorWd0
import Derived.Test.YtfaelejeihmgcaaDoorWd2
import Derived.Test.YtfaelejeihmgcaaDoorWd6
import Derived.Test.YtfaelejeihmgcaaDoorWd7
namespace Go.Proofs.YtfaelejeihmgcaaDoor.Wd
open Go.RowKit Go.Proofs.YtfaelejeihmgcaaDoorW.PrintWords Go.Proofs.YtfaelejeihmgcaaDoorW.PrintLast Go.Proofs.YtfaelejeihmgcaaDoorW.PrintMore
attribute [local go_sem] max2_int min2_int max_two min_two max_three min_three max_four min_four   -- for this text's walks alone
set_option linter.unusedVariables false
set_option linter.unusedSimpArgs false

/-! ### cachepotlaw25_WordBent: function 4 -/
def cachepotlaw25_WordBent.j0 : Nat → ByteArray → Option (Bool)
  | 0, _ => none
  | k + 1, x9 => (word_Split.f k x9).bind fun bt198 => ((cachepotref3_Split.f k x9).bind fun bt202 => ((cachepotlaw25_alive.f k).bind fun t206 => (if t206 = true then (if bt198.2 = bt202.2 then ((cachepotbook_SameTexts.f k bt198.1 bt202.1).bind fun t207 => (some t207)) else (some false)) else (some false))))
def cachepotlaw25_WordBent.f (k : Nat) (l0 : List ByteArray) (a1 : Int) (a2 : Int) (a3 : Int) : Option (Bool) := (cachepotbook_Texts.f k l0 8 20).bind fun t185 => ((cachepotref3_Join.f k t185).bind fun t188 => (if t188.toList = ([] : List UInt8) then ((cachepotlaw25_alive.f k).bind fun t189 => (some t189)) else ((cachepotbook_Pick.f a1 (t188.size : Int)).bind fun t190 => ((cachepotbook_Pick.f a2 3).bind fun t191 => (if t191 = 0 then (if 0 ≤ t190 then (if t190 ≤ (t188.size : Int) then ((some (([a3] : List Int) : List Int)).bind fun y192 => (if (t188.extract 0 (t190 : Int).toNat).size + (strOfNums y192).size ≤ 9223372036854775807 then (if 0 ≤ (wrap64 (t190 + 1)) then (if (wrap64 (t190 + 1)) ≤ (t188.size : Int) then (if ((t188.extract 0 (t190 : Int).toNat) ++ (strOfNums y192)).size + (t188.extract ((wrap64 (t190 + 1)) : Int).toNat t188.size).size ≤ 9223372036854775807 then (cachepotlaw25_WordBent.j0 k (((t188.extract 0 (t190 : Int).toNat) ++ (strOfNums y192)) ++ (t188.extract ((wrap64 (t190 + 1)) : Int).toNat t188.size))) else (none)) else (none)) else (none)) else (none))) else (none)) else (none)) else (if t191 = 1 then (if 0 ≤ t190 then (if t190 ≤ (t188.size : Int) then (if 0 ≤ (wrap64 (t190 + 1)) then (if (wrap64 (t190 + 1)) ≤ (t188.size : Int) then (if (t188.extract 0 (t190 : Int).toNat).size + (t188.extract ((wrap64 (t190 + 1)) : Int).toNat t188.size).size ≤ 9223372036854775807 then (cachepotlaw25_WordBent.j0 k ((t188.extract 0 (t190 : Int).toNat) ++ (t188.extract ((wrap64 (t190 + 1)) : Int).toNat t188.size))) else (none)) else (none)) else (none)) else (none)) else (none)) else (if 0 ≤ t190 then (if t190 ≤ (t188.size : Int) then ((some (([a3] : List Int) : List Int)).bind fun y195 => (if (t188.extract 0 (t190 : Int).toNat).size + (strOfNums y195).size ≤ 9223372036854775807 then (if ((t188.extract 0 (t190 : Int).toNat) ++ (strOfNums y195)).size + (t188.extract (t190 : Int).toNat t188.size).size ≤ 9223372036854775807 then (cachepotlaw25_WordBent.j0 k (((t188.extract 0 (t190 : Int).toNat) ++ (strOfNums y195)) ++ (t188.extract (t190 : Int).toNat t188.size))) else (none)) else (none))) else (none)) else (none))))))))
theorem cachepotlaw25_WordBent.mono_l : ∀ k, (∀ y0, LeO (cachepotlaw25_WordBent.j0 k y0) (cachepotlaw25_WordBent.j0 (k + 1) y0))
  | 0 => fun _ r h => by simp [cachepotlaw25_WordBent.j0] at h
  | k + 1 => by
    have ih0 := cachepotlaw25_WordBent.mono_l k
    · intro y0
      unfold cachepotlaw25_WordBent.j0
      repeat' first
      | (with_reducible exact ih0 _)
      | (with_reducible exact cachepotbook_SameTexts.mono _ _ _)
      | (with_reducible exact cachepotbook_Texts.mono _ _ _ _)
      | (with_reducible exact cachepotlaw25_alive.mono _)
      | (with_reducible exact cachepotref3_Join.mono _ _)
      | (with_reducible exact cachepotref3_Split.mono _ _)
      | (with_reducible exact word_Split.mono _ _)
      | (with_reducible exact LeO.refl _)
      | (with_reducible exact LeO.none _)
      | (with_reducible refine LeO.ite ?_ ?_)
      | (with_reducible refine LeO.bind ?_ (fun _ => ?_))
      | exact ih0 _
      | exact cachepotbook_SameTexts.mono _ _ _
      | exact cachepotbook_Texts.mono _ _ _ _
      | exact cachepotlaw25_alive.mono _
      | exact cachepotref3_Join.mono _ _
      | exact cachepotref3_Split.mono _ _
      | exact word_Split.mono _ _
      | exact LeO.none _
      | refine LeO.ite ?_ ?_
      | refine LeO.bind ?_ (fun _ => ?_)
theorem cachepotlaw25_WordBent.mono : ∀ a0 a1 a2 a3 k, LeO (cachepotlaw25_WordBent.f k a0 a1 a2 a3) (cachepotlaw25_WordBent.f (k + 1) a0 a1 a2 a3) := by
  intro a0 a1 a2 a3 k
  have ih0 := cachepotlaw25_WordBent.mono_l k
  unfold cachepotlaw25_WordBent.f
  repeat' first
      | (with_reducible exact ih0 _)
      | (with_reducible exact cachepotbook_SameTexts.mono _ _ _)
      | (with_reducible exact cachepotbook_Texts.mono _ _ _ _)
      | (with_reducible exact cachepotlaw25_alive.mono _)
      | (with_reducible exact cachepotref3_Join.mono _ _)
      | (with_reducible exact cachepotref3_Split.mono _ _)
      | (with_reducible exact word_Split.mono _ _)
      | (with_reducible exact LeO.refl _)
      | (with_reducible exact LeO.none _)
      | (with_reducible refine LeO.ite ?_ ?_)
      | (with_reducible refine LeO.bind ?_ (fun _ => ?_))
      | exact ih0 _
      | exact cachepotbook_SameTexts.mono _ _ _
      | exact cachepotbook_Texts.mono _ _ _ _
      | exact cachepotlaw25_alive.mono _
      | exact cachepotref3_Join.mono _ _
      | exact cachepotref3_Split.mono _ _
      | exact word_Split.mono _ _
      | exact LeO.none _
      | refine LeO.ite ?_ ?_
      | refine LeO.bind ?_ (fun _ => ?_)
def cachepotlaw25_WordBent.T6 : Bool × List (List Nat × List Nat) := (true, [([], []), ([], []), ([0, 1], [0, 1]), ([], []), ([3], [3]), ([4], [4]), ([2, 5], [2, 5]), ([], []), ([], []), ([7, 8], [7, 8]), ([6, 9], [6, 9]), ([10, 0, 1, 2, 3, 4, 5, 6, 7, 8, 9, 10], [0, 7, 10])])
def cachepotlaw25_WordBent.B6 : List Nat := [0, 0, 3, 0, 8, 24, 63, 0, 0, 384, 1023, 2047]
theorem cachepotlaw25_WordBent.tab6 : rtab .any (opsOf Tryd.f4 6) = cachepotlaw25_WordBent.T6 := by kernel_rfl
theorem cachepotlaw25_WordBent.bits6 : waitsOk cachepotlaw25_WordBent.T6.2 cachepotlaw25_WordBent.B6 = true := by kernel_rfl
def cachepotlaw25_WordBent.T8 : Bool × List (List Nat × List Nat) := (true, [([], []), ([], []), ([0, 1], [0, 1]), ([], []), ([3], [3]), ([4], [4]), ([2, 5], [2, 5]), ([], []), ([], []), ([8], [8]), ([7, 9], [7, 9]), ([6, 10], [6, 10]), ([11, 0, 1, 2, 3, 4, 5, 6, 7, 8, 9, 10, 11], [0, 7, 11])])
def cachepotlaw25_WordBent.B8 : List Nat := [0, 0, 3, 0, 8, 24, 63, 0, 0, 256, 896, 2047, 4095]
theorem cachepotlaw25_WordBent.tab8 : rtab .any (opsOf Tryd.f4 8) = cachepotlaw25_WordBent.T8 := by kernel_rfl
theorem cachepotlaw25_WordBent.bits8 : waitsOk cachepotlaw25_WordBent.T8.2 cachepotlaw25_WordBent.B8 = true := by kernel_rfl
def cachepotlaw25_WordBent.T10 : Bool × List (List Nat × List Nat) := (true, [([], []), ([], []), ([0, 1], [0, 1]), ([], []), ([], []), ([4], [4]), ([3, 5], [3, 5]), ([2, 6], [2, 6]), ([7, 0, 1, 2, 3, 4, 5, 6, 7], [0, 3, 7])])
def cachepotlaw25_WordBent.B10 : List Nat := [0, 0, 3, 0, 0, 16, 56, 127, 255]
theorem cachepotlaw25_WordBent.tab10 : rtab .any (opsOf Tryd.f4 10) = cachepotlaw25_WordBent.T10 := by kernel_rfl
theorem cachepotlaw25_WordBent.bits10 : waitsOk cachepotlaw25_WordBent.T10.2 cachepotlaw25_WordBent.B10 = true := by kernel_rfl
set_option maxHeartbeats 8000000 in
set_option maxRecDepth 100000 in
theorem cachepotlaw25_WordBent.calls (k : Nat) (A0 : Option Addr) (c0 : Nat) (l0 : List ByteArray) (a1 : Int) (a2 : Int) (a3 : Int) (r : Bool) (w : World) (hr0 : Kd.C Kd.string w A0 l0.length l0) (hc0 : l0.length ≤ c0) (h : cachepotlaw25_WordBent.f k l0 a1 a2 a3 = some r) (hT : Tabs w) :
    Calls Tryd.prog 4 #[.slice A0 l0.length c0, .int .i64 a1, .int .i64 a2, .int .u8 a3] w fun e w' => e = .returned (.bool r) ∧ Below w.heap.size w w' := by
  have HR0 := Aside0.mk hr0
  have HC0 := Aside0.mk hc0
  clear hr0 hc0
  have HB := Aside0.mk (Below.refl w.heap.size w)
  have H : ((cachepotbook_Texts.f k l0 8 20).bind fun t185 => ((cachepotref3_Join.f k t185).bind fun t188 => (if t188.toList = ([] : List UInt8) then ((cachepotlaw25_alive.f k).bind fun t189 => (some t189)) else ((cachepotbook_Pick.f a1 (t188.size : Int)).bind fun t190 => ((cachepotbook_Pick.f a2 3).bind fun t191 => (if t191 = 0 then (if 0 ≤ t190 then (if t190 ≤ (t188.size : Int) then ((some (([a3] : List Int) : List Int)).bind fun y192 => (if (t188.extract 0 (t190 : Int).toNat).size + (strOfNums y192).size ≤ 9223372036854775807 then (if 0 ≤ (wrap64 (t190 + 1)) then (if (wrap64 (t190 + 1)) ≤ (t188.size : Int) then (if ((t188.extract 0 (t190 : Int).toNat) ++ (strOfNums y192)).size + (t188.extract ((wrap64 (t190 + 1)) : Int).toNat t188.size).size ≤ 9223372036854775807 then (cachepotlaw25_WordBent.j0 k (((t188.extract 0 (t190 : Int).toNat) ++ (strOfNums y192)) ++ (t188.extract ((wrap64 (t190 + 1)) : Int).toNat t188.size))) else (none)) else (none)) else (none)) else (none))) else (none)) else (none)) else (if t191 = 1 then (if 0 ≤ t190 then (if t190 ≤ (t188.size : Int) then (if 0 ≤ (wrap64 (t190 + 1)) then (if (wrap64 (t190 + 1)) ≤ (t188.size : Int) then (if (t188.extract 0 (t190 : Int).toNat).size + (t188.extract ((wrap64 (t190 + 1)) : Int).toNat t188.size).size ≤ 9223372036854775807 then (cachepotlaw25_WordBent.j0 k ((t188.extract 0 (t190 : Int).toNat) ++ (t188.extract ((wrap64 (t190 + 1)) : Int).toNat t188.size))) else (none)) else (none)) else (none)) else (none)) else (none)) else (if 0 ≤ t190 then (if t190 ≤ (t188.size : Int) then ((some (([a3] : List Int) : List Int)).bind fun y195 => (if (t188.extract 0 (t190 : Int).toNat).size + (strOfNums y195).size ≤ 9223372036854775807 then (if ((t188.extract 0 (t190 : Int).toNat) ++ (strOfNums y195)).size + (t188.extract (t190 : Int).toNat t188.size).size ≤ 9223372036854775807 then (cachepotlaw25_WordBent.j0 k (((t188.extract 0 (t190 : Int).toNat) ++ (strOfNums y195)) ++ (t188.extract (t190 : Int).toNat t188.size))) else (none)) else (none))) else (none)) else (none))))))))) = some r := h
  clear h
  replace H := Option.bind_eq_some_iff.mp H
  obtain ⟨t185, A50, H⟩ := H
  replace H : ((cachepotref3_Join.f k t185).bind fun t188 => (if t188.toList = ([] : List UInt8) then ((cachepotlaw25_alive.f k).bind fun t189 => (some t189)) else ((cachepotbook_Pick.f a1 (t188.size : Int)).bind fun t190 => ((cachepotbook_Pick.f a2 3).bind fun t191 => (if t191 = 0 then (if 0 ≤ t190 then (if t190 ≤ (t188.size : Int) then ((some (([a3] : List Int) : List Int)).bind fun y192 => (if (t188.extract 0 (t190 : Int).toNat).size + (strOfNums y192).size ≤ 9223372036854775807 then (if 0 ≤ (wrap64 (t190 + 1)) then (if (wrap64 (t190 + 1)) ≤ (t188.size : Int) then (if ((t188.extract 0 (t190 : Int).toNat) ++ (strOfNums y192)).size + (t188.extract ((wrap64 (t190 + 1)) : Int).toNat t188.size).size ≤ 9223372036854775807 then (cachepotlaw25_WordBent.j0 k (((t188.extract 0 (t190 : Int).toNat) ++ (strOfNums y192)) ++ (t188.extract ((wrap64 (t190 + 1)) : Int).toNat t188.size))) else (none)) else (none)) else (none)) else (none))) else (none)) else (none)) else (if t191 = 1 then (if 0 ≤ t190 then (if t190 ≤ (t188.size : Int) then (if 0 ≤ (wrap64 (t190 + 1)) then (if (wrap64 (t190 + 1)) ≤ (t188.size : Int) then (if (t188.extract 0 (t190 : Int).toNat).size + (t188.extract ((wrap64 (t190 + 1)) : Int).toNat t188.size).size ≤ 9223372036854775807 then (cachepotlaw25_WordBent.j0 k ((t188.extract 0 (t190 : Int).toNat) ++ (t188.extract ((wrap64 (t190 + 1)) : Int).toNat t188.size))) else (none)) else (none)) else (none)) else (none)) else (none)) else (if 0 ≤ t190 then (if t190 ≤ (t188.size : Int) then ((some (([a3] : List Int) : List Int)).bind fun y195 => (if (t188.extract 0 (t190 : Int).toNat).size + (strOfNums y195).size ≤ 9223372036854775807 then (if ((t188.extract 0 (t190 : Int).toNat) ++ (strOfNums y195)).size + (t188.extract (t190 : Int).toNat t188.size).size ≤ 9223372036854775807 then (cachepotlaw25_WordBent.j0 k (((t188.extract 0 (t190 : Int).toNat) ++ (strOfNums y195)) ++ (t188.extract (t190 : Int).toNat t188.size))) else (none)) else (none))) else (none)) else (none)))))))) = some r := H
  have A5 := Aside0.mk A50
  clear A50
  replace H := Option.bind_eq_some_iff.mp H
  obtain ⟨t188, A60, H⟩ := H
  replace H : (if t188.toList = ([] : List UInt8) then ((cachepotlaw25_alive.f k).bind fun t189 => (some t189)) else ((cachepotbook_Pick.f a1 (t188.size : Int)).bind fun t190 => ((cachepotbook_Pick.f a2 3).bind fun t191 => (if t191 = 0 then (if 0 ≤ t190 then (if t190 ≤ (t188.size : Int) then ((some (([a3] : List Int) : List Int)).bind fun y192 => (if (t188.extract 0 (t190 : Int).toNat).size + (strOfNums y192).size ≤ 9223372036854775807 then (if 0 ≤ (wrap64 (t190 + 1)) then (if (wrap64 (t190 + 1)) ≤ (t188.size : Int) then (if ((t188.extract 0 (t190 : Int).toNat) ++ (strOfNums y192)).size + (t188.extract ((wrap64 (t190 + 1)) : Int).toNat t188.size).size ≤ 9223372036854775807 then (cachepotlaw25_WordBent.j0 k (((t188.extract 0 (t190 : Int).toNat) ++ (strOfNums y192)) ++ (t188.extract ((wrap64 (t190 + 1)) : Int).toNat t188.size))) else (none)) else (none)) else (none)) else (none))) else (none)) else (none)) else (if t191 = 1 then (if 0 ≤ t190 then (if t190 ≤ (t188.size : Int) then (if 0 ≤ (wrap64 (t190 + 1)) then (if (wrap64 (t190 + 1)) ≤ (t188.size : Int) then (if (t188.extract 0 (t190 : Int).toNat).size + (t188.extract ((wrap64 (t190 + 1)) : Int).toNat t188.size).size ≤ 9223372036854775807 then (cachepotlaw25_WordBent.j0 k ((t188.extract 0 (t190 : Int).toNat) ++ (t188.extract ((wrap64 (t190 + 1)) : Int).toNat t188.size))) else (none)) else (none)) else (none)) else (none)) else (none)) else (if 0 ≤ t190 then (if t190 ≤ (t188.size : Int) then ((some (([a3] : List Int) : List Int)).bind fun y195 => (if (t188.extract 0 (t190 : Int).toNat).size + (strOfNums y195).size ≤ 9223372036854775807 then (if ((t188.extract 0 (t190 : Int).toNat) ++ (strOfNums y195)).size + (t188.extract (t190 : Int).toNat t188.size).size ≤ 9223372036854775807 then (cachepotlaw25_WordBent.j0 k (((t188.extract 0 (t190 : Int).toNat) ++ (strOfNums y195)) ++ (t188.extract (t190 : Int).toNat t188.size))) else (none)) else (none))) else (none)) else (none))))))) = some r := H
  have A6 := Aside0.mk A60
  clear A60
  by_cases c7 : t188.toList = ([] : List UInt8)
  · rw [if_pos c7] at H
    have c7b0 : (t188.toList == ([] : List UInt8)) = true := beq_iff_eq.mpr c7
    have c7b1 : (t188.toList != ([] : List UInt8)) = false := bne_eq_false_iff_eq.mpr c7
    clear c7
    replace H := Option.bind_eq_some_iff.mp H
    obtain ⟨t189, A80, H⟩ := H
    replace H : (some t189) = some r := H
    have A8 := Aside0.mk A80
    clear A80
    obtain rfl := Option.some.inj H
    go_enter Tryd.func4, Tryd.ntmps4
    go_wp2_with (first | ((with_reducible refine gate_callee (f := 24) rfl ?_); refine goesL_ (some 16) rfl rfl Tryd.func24 (by kernel_rfl) rfl #[.slice A0 l0.length c0, .int .i64 8, .int .i64 20] rfl (by (try simp only [List.map_toArray, List.map_cons, List.map_nil]); first | done | rfl | (simp only [List.length_drop, List.length_take]; rfl)) ?_; (with_reducible refine (cachepotbook_Texts.calls k _ _ l0 8 20 t185 _ ?side1 ?side2 A5.out).mono ?_); (case side1 => repeat (first | exact HR0.out | (with_reducible refine Kd.C_alloc ?_ _) | (with_reducible refine Kd.C_drewN ?_ _) | (with_reducible refine Kd.C_drew ?_))); (case side2 => exact HC0.out); rintro e w9 ⟨v186, rfl, ho0, hb⟩; refine ⟨_, rfl, ?_⟩; have n0_ := Aside0.mk (Kd.R_lower ho0 (below_size (by repeat (first | (with_reducible first | exact HB.out | apply below_alloc | apply pw_below_drewN | apply below_drew1) | exact HB.out)))); have n1_ := Aside0.mk (below_step (by repeat (first | (with_reducible first | exact HB.out | apply below_alloc | apply pw_below_drewN | apply below_drew1) | exact HB.out)) hb); clear HB; have HO187 := n0_; have HB := n1_; clear n0_ n1_; (try clear hb); (try clear hb2); (try clear hk); (try clear hi); (try clear ho0); obtain ⟨Ao10, co10, eo10⟩ := Kd.R_slice HO187.out; subst eo10) | ((with_reducible refine gate_callee (f := 23) rfl ?_); refine goesL_ (some 17) rfl rfl Tryd.func23 (by kernel_rfl) rfl #[.slice Ao10 t185.length co10] rfl (by (try simp only [List.map_toArray, List.map_cons, List.map_nil]); first | done | rfl | (simp only [List.length_drop, List.length_take]; rfl)) ?_; (with_reducible refine (cachepotref3_Join.calls k _ _ t185 t188 _ ?side1 ?side2 A6.out).mono ?_); (case side1 => repeat (first | exact (Kd.R_reads' HO187.out).2.2 | (with_reducible refine Kd.C_alloc ?_ _) | (with_reducible refine Kd.C_drewN ?_ _) | (with_reducible refine Kd.C_drew ?_))); (case side2 => exact (Kd.R_reads' HO187.out).2.1); rintro e w11 ⟨rfl, hb⟩; refine ⟨_, rfl, ?_⟩; have n0_ := Aside0.mk (Kd.R_below (by (with_reducible repeat (first | apply Kd.R_alloc | apply Kd.R_drewN | apply Kd.R_drew)); exact HO187.out) hb); have n1_ := Aside0.mk (below_step (by repeat (first | (with_reducible first | exact HB.out | apply below_alloc | apply pw_below_drewN | apply below_drew1) | exact HB.out)) hb); clear HO187; clear HB; have HO187 := n0_; have HB := n1_; clear n0_ n1_; (try clear hb); (try clear hb2); (try clear hk); (try clear hi)) | ((with_reducible refine gate_callee (f := 21) rfl ?_); refine goesL_ (some 20) rfl rfl Tryd.func21 (by kernel_rfl) rfl #[] rfl (by (try simp only [List.map_toArray, List.map_cons, List.map_nil]); first | done | rfl | (simp only [List.length_drop, List.length_take]; rfl)) ?_; (with_reducible refine (cachepotlaw25_alive.calls k  t189 _ A8.out (by first | exact hT | (refine Tabs.below hT ?_; (repeat (first | (with_reducible first | exact HB.out | exact Below.refl _ _ | apply below_alloc | apply pw_below_drewN | apply below_drew1) | exact HB.out))))).mono ?_); rintro e w12 ⟨rfl, hb⟩; refine ⟨_, rfl, ?_⟩; have n0_ := Aside0.mk (Kd.R_below (by (with_reducible repeat (first | apply Kd.R_alloc | apply Kd.R_drewN | apply Kd.R_drew)); exact HO187.out) hb); have n1_ := Aside0.mk (below_step (by repeat (first | (with_reducible first | exact HB.out | apply below_alloc | apply pw_below_drewN | apply below_drew1) | exact HB.out)) hb); clear HO187; clear HB; have HO187 := n0_; have HB := n1_; clear n0_ n1_; (try clear hb); (try clear hb2); (try clear hk); (try clear hi)))
    go_ret
    exact ⟨by first | rfl | (simp [errW_none, errW_some] <;> rfl) | (simp [*, errW_none, errW_some] <;> rfl), by repeat (first | (with_reducible first | exact HB.out | apply below_alloc | apply pw_below_drewN | apply below_drew1) | exact HB.out)⟩
  · rw [if_neg c7] at H
    have c7b0 : (t188.toList == ([] : List UInt8)) = false := beq_eq_false_iff_ne.mpr c7
    have c7b1 : (t188.toList != ([] : List UInt8)) = true := bne_iff_ne.mpr c7
    replace H := Option.bind_eq_some_iff.mp H
    obtain ⟨t190, A130, H⟩ := H
    replace H : ((cachepotbook_Pick.f a2 3).bind fun t191 => (if t191 = 0 then (if 0 ≤ t190 then (if t190 ≤ (t188.size : Int) then ((some (([a3] : List Int) : List Int)).bind fun y192 => (if (t188.extract 0 (t190 : Int).toNat).size + (strOfNums y192).size ≤ 9223372036854775807 then (if 0 ≤ (wrap64 (t190 + 1)) then (if (wrap64 (t190 + 1)) ≤ (t188.size : Int) then (if ((t188.extract 0 (t190 : Int).toNat) ++ (strOfNums y192)).size + (t188.extract ((wrap64 (t190 + 1)) : Int).toNat t188.size).size ≤ 9223372036854775807 then (cachepotlaw25_WordBent.j0 k (((t188.extract 0 (t190 : Int).toNat) ++ (strOfNums y192)) ++ (t188.extract ((wrap64 (t190 + 1)) : Int).toNat t188.size))) else (none)) else (none)) else (none)) else (none))) else (none)) else (none)) else (if t191 = 1 then (if 0 ≤ t190 then (if t190 ≤ (t188.size : Int) then (if 0 ≤ (wrap64 (t190 + 1)) then (if (wrap64 (t190 + 1)) ≤ (t188.size : Int) then (if (t188.extract 0 (t190 : Int).toNat).size + (t188.extract ((wrap64 (t190 + 1)) : Int).toNat t188.size).size ≤ 9223372036854775807 then (cachepotlaw25_WordBent.j0 k ((t188.extract 0 (t190 : Int).toNat) ++ (t188.extract ((wrap64 (t190 + 1)) : Int).toNat t188.size))) else (none)) else (none)) else (none)) else (none)) else (none)) else (if 0 ≤ t190 then (if t190 ≤ (t188.size : Int) then ((some (([a3] : List Int) : List Int)).bind fun y195 => (if (t188.extract 0 (t190 : Int).toNat).size + (strOfNums y195).size ≤ 9223372036854775807 then (if ((t188.extract 0 (t190 : Int).toNat) ++ (strOfNums y195)).size + (t188.extract (t190 : Int).toNat t188.size).size ≤ 9223372036854775807 then (cachepotlaw25_WordBent.j0 k (((t188.extract 0 (t190 : Int).toNat) ++ (strOfNums y195)) ++ (t188.extract (t190 : Int).toNat t188.size))) else (none)) else (none))) else (none)) else (none))))) = some r := H
    have A13 := Aside0.mk A130
    clear A130
    replace H := Option.bind_eq_some_iff.mp H
    obtain ⟨t191, A140, H⟩ := H
    replace H : (if t191 = 0 then (if 0 ≤ t190 then (if t190 ≤ (t188.size : Int) then ((some (([a3] : List Int) : List Int)).bind fun y192 => (if (t188.extract 0 (t190 : Int).toNat).size + (strOfNums y192).size ≤ 9223372036854775807 then (if 0 ≤ (wrap64 (t190 + 1)) then (if (wrap64 (t190 + 1)) ≤ (t188.size : Int) then (if ((t188.extract 0 (t190 : Int).toNat) ++ (strOfNums y192)).size + (t188.extract ((wrap64 (t190 + 1)) : Int).toNat t188.size).size ≤ 9223372036854775807 then (cachepotlaw25_WordBent.j0 k (((t188.extract 0 (t190 : Int).toNat) ++ (strOfNums y192)) ++ (t188.extract ((wrap64 (t190 + 1)) : Int).toNat t188.size))) else (none)) else (none)) else (none)) else (none))) else (none)) else (none)) else (if t191 = 1 then (if 0 ≤ t190 then (if t190 ≤ (t188.size : Int) then (if 0 ≤ (wrap64 (t190 + 1)) then (if (wrap64 (t190 + 1)) ≤ (t188.size : Int) then (if (t188.extract 0 (t190 : Int).toNat).size + (t188.extract ((wrap64 (t190 + 1)) : Int).toNat t188.size).size ≤ 9223372036854775807 then (cachepotlaw25_WordBent.j0 k ((t188.extract 0 (t190 : Int).toNat) ++ (t188.extract ((wrap64 (t190 + 1)) : Int).toNat t188.size))) else (none)) else (none)) else (none)) else (none)) else (none)) else (if 0 ≤ t190 then (if t190 ≤ (t188.size : Int) then ((some (([a3] : List Int) : List Int)).bind fun y195 => (if (t188.extract 0 (t190 : Int).toNat).size + (strOfNums y195).size ≤ 9223372036854775807 then (if ((t188.extract 0 (t190 : Int).toNat) ++ (strOfNums y195)).size + (t188.extract (t190 : Int).toNat t188.size).size ≤ 9223372036854775807 then (cachepotlaw25_WordBent.j0 k (((t188.extract 0 (t190 : Int).toNat) ++ (strOfNums y195)) ++ (t188.extract (t190 : Int).toNat t188.size))) else (none)) else (none))) else (none)) else (none)))) = some r := H
    have A14 := Aside0.mk A140
    clear A140
    have HC15 := Aside0.mk H
    clear H
    go_enter Tryd.func4, Tryd.ntmps4
    go_upto_block 0 with (first | ((with_reducible refine gate_callee (f := 24) rfl ?_); refine goesL_ (some 16) rfl rfl Tryd.func24 (by kernel_rfl) rfl #[.slice A0 l0.length c0, .int .i64 8, .int .i64 20] rfl (by (try simp only [List.map_toArray, List.map_cons, List.map_nil]); first | done | rfl | (simp only [List.length_drop, List.length_take]; rfl)) ?_; (with_reducible refine (cachepotbook_Texts.calls k _ _ l0 8 20 t185 _ ?side1 ?side2 A5.out).mono ?_); (case side1 => repeat (first | exact HR0.out | (with_reducible refine Kd.C_alloc ?_ _) | (with_reducible refine Kd.C_drewN ?_ _) | (with_reducible refine Kd.C_drew ?_))); (case side2 => exact HC0.out); rintro e w16 ⟨v186, rfl, ho0, hb⟩; refine ⟨_, rfl, ?_⟩; have n0_ := Aside0.mk (Kd.R_lower ho0 (below_size (by repeat (first | (with_reducible first | exact HB.out | apply below_alloc | apply pw_below_drewN | apply below_drew1) | exact HB.out)))); have n1_ := Aside0.mk (below_step (by repeat (first | (with_reducible first | exact HB.out | apply below_alloc | apply pw_below_drewN | apply below_drew1) | exact HB.out)) hb); clear HB; have HO187 := n0_; have HB := n1_; clear n0_ n1_; (try clear hb); (try clear hb2); (try clear hk); (try clear hi); (try clear ho0); obtain ⟨Ao17, co17, eo17⟩ := Kd.R_slice HO187.out; subst eo17) | ((with_reducible refine gate_callee (f := 23) rfl ?_); refine goesL_ (some 17) rfl rfl Tryd.func23 (by kernel_rfl) rfl #[.slice Ao17 t185.length co17] rfl (by (try simp only [List.map_toArray, List.map_cons, List.map_nil]); first | done | rfl | (simp only [List.length_drop, List.length_take]; rfl)) ?_; (with_reducible refine (cachepotref3_Join.calls k _ _ t185 t188 _ ?side1 ?side2 A6.out).mono ?_); (case side1 => repeat (first | exact (Kd.R_reads' HO187.out).2.2 | (with_reducible refine Kd.C_alloc ?_ _) | (with_reducible refine Kd.C_drewN ?_ _) | (with_reducible refine Kd.C_drew ?_))); (case side2 => exact (Kd.R_reads' HO187.out).2.1); rintro e w18 ⟨rfl, hb⟩; refine ⟨_, rfl, ?_⟩; have n0_ := Aside0.mk (Kd.R_below (by (with_reducible repeat (first | apply Kd.R_alloc | apply Kd.R_drewN | apply Kd.R_drew)); exact HO187.out) hb); have n1_ := Aside0.mk (below_step (by repeat (first | (with_reducible first | exact HB.out | apply below_alloc | apply pw_below_drewN | apply below_drew1) | exact HB.out)) hb); clear HO187; clear HB; have HO187 := n0_; have HB := n1_; clear n0_ n1_; (try clear hb); (try clear hb2); (try clear hk); (try clear hi)) | ((with_reducible refine gate_callee (f := 25) rfl ?_); refine goesL_ (some 24) rfl rfl Tryd.func25 (by kernel_rfl) rfl #[.int .i64 a1, .int .i64 (t188.size : Int)] rfl (by (try simp only [List.map_toArray, List.map_cons, List.map_nil]); first | done | rfl | (simp only [List.length_drop, List.length_take]; rfl)) ?_; (with_reducible refine (cachepotbook_Pick.calls a1 (t188.size : Int) t190 _ A13.out).mono ?_); rintro e w' ⟨rfl, ⟨nd, rfl⟩⟩; refine ⟨_, rfl, ?_⟩) | ((with_reducible refine gate_callee (f := 25) rfl ?_); refine goesL_ (some 26) rfl rfl Tryd.func25 (by kernel_rfl) rfl #[.int .i64 a2, .int .i64 3] rfl (by (try simp only [List.map_toArray, List.map_cons, List.map_nil]); first | done | rfl | (simp only [List.length_drop, List.length_take]; rfl)) ?_; (with_reducible refine (cachepotbook_Pick.calls a2 3 t191 _ A14.out).mono ?_); rintro e w' ⟨rfl, ⟨ndb, rfl⟩⟩; refine ⟨_, rfl, ?_⟩))
    (try simp only [Act.put, List.setIfInBounds_toArray, List.set_cons_zero, List.set_cons_succ])
    go_cut [9] (fun v9 wc => ∃ (kq : Nat) (x9_14 : ByteArray), v9 = .string x9_14 ∧ Aside0 (cachepotlaw25_WordBent.j0 kq x9_14 = some r) ∧ Aside0 (kq ≤ k) ∧ Aside0 (Below w.heap.size w wc))
    case first =>
      have H := HC15.out
      clear HC15
      by_cases c19 : t191 = 0
      · rw [if_pos c19] at H
        have c19b0 : (t191 == 0) = true := beq_iff_eq.mpr c19
        have c19b1 : (t191 != 0) = false := bne_eq_false_iff_eq.mpr c19
        clear c19
        (first | rw [c19b0] | (simp only [i64_w, i32_w]; rw [c19b0]) | skip)
        by_cases c20 : 0 ≤ t190
        · rw [if_pos c20] at H
          have c20b0 := eq_true c20
          have c20b1 : decide (0 ≤ t190) = true := decide_eq_true c20
          clear c20
          by_cases c21 : t190 ≤ (t188.size : Int)
          · rw [if_pos c21] at H
            have c21b0 := eq_true c21
            have c21b1 : decide (t190 ≤ (t188.size : Int)) = true := decide_eq_true c21
            clear c21
            obtain ⟨y192, hy192⟩ : ∃ y_ : List Int, y_ = (([a3] : List Int)) := ⟨_, rfl⟩
            replace H : (if (t188.extract 0 (t190 : Int).toNat).size + (strOfNums y192).size ≤ 9223372036854775807 then (if 0 ≤ (wrap64 (t190 + 1)) then (if (wrap64 (t190 + 1)) ≤ (t188.size : Int) then (if ((t188.extract 0 (t190 : Int).toNat) ++ (strOfNums y192)).size + (t188.extract ((wrap64 (t190 + 1)) : Int).toNat t188.size).size ≤ 9223372036854775807 then (cachepotlaw25_WordBent.j0 k (((t188.extract 0 (t190 : Int).toNat) ++ (strOfNums y192)) ++ (t188.extract ((wrap64 (t190 + 1)) : Int).toNat t188.size))) else (none)) else (none)) else (none)) else (none)) = some r := by first | (rw [hy192]; with_reducible exact H) | (have H2_ := (Option.bind_some _ _).symm.trans H; rw [hy192]; with_reducible exact H2_) | (have H2_ := (Option.bind_some _ _).symm.trans H; with_reducible exact H2_) | with_reducible exact H | (rw [hy192]; exact H) | exact H
            have Ny192 := Aside0.mk hy192
            clear hy192
            by_cases c22 : (t188.extract 0 (t190 : Int).toNat).size + (strOfNums y192).size ≤ 9223372036854775807
            · rw [if_pos c22] at H
              have c22b0 := eq_true c22
              have c22b1 : decide ((t188.extract 0 (t190 : Int).toNat).size + (strOfNums y192).size ≤ 9223372036854775807) = true := decide_eq_true c22
              try have c22b2 : (9223372036854775807 < (t188.extract 0 (t190 : Int).toNat).size + (strOfNums y192).size) = False := eq_false (Nat.not_lt.2 c22)
              try have c22b28 : (9223372036854775807 < (t190 : Int).toNat + (strOfNums y192).size) = False := by (have h_ := Nat.not_lt.2 c22; simp only [ByteArray.size_append, ByteArray.size_extract] at h_; have hle_ : t190 ≤ (t188.size : Int) := of_decide_eq_true (by assumption); exact eq_false (by simp at h_ ⊢; omega))
              obtain ⟨ji23, hji23⟩ : ∃ j_ : Int, (wrap64 (t190 + 1)) = j_ := ⟨_, rfl⟩
              replace H : (if 0 ≤ (ji23) then (if (ji23) ≤ (t188.size : Int) then (if ((t188.extract 0 (t190 : Int).toNat) ++ (strOfNums y192)).size + (t188.extract ((ji23) : Int).toNat t188.size).size ≤ 9223372036854775807 then (cachepotlaw25_WordBent.j0 k (((t188.extract 0 (t190 : Int).toNat) ++ (strOfNums y192)) ++ (t188.extract ((ji23) : Int).toNat t188.size))) else (none)) else (none)) else (none)) = some r := by first | (rw [hji23] at H; exact H) | (simp only [hji23] at H ⊢; exact H)
              have hji23w : (IntKind.i64.wrap (t190 + 1)) = ji23 := (i64_w _).trans hji23
              by_cases c24 : 0 ≤ (ji23)
              · rw [if_pos c24] at H
                have c24b0 := eq_true c24
                have c24b1 : decide (0 ≤ (ji23)) = true := decide_eq_true c24
                clear c24
                by_cases c25 : (ji23) ≤ (t188.size : Int)
                · rw [if_pos c25] at H
                  have c25b0 := eq_true c25
                  have c25b1 : decide ((ji23) ≤ (t188.size : Int)) = true := decide_eq_true c25
                  clear c25
                  by_cases c26 : ((t188.extract 0 (t190 : Int).toNat) ++ (strOfNums y192)).size + (t188.extract ((ji23) : Int).toNat t188.size).size ≤ 9223372036854775807
                  · rw [if_pos c26] at H
                    have c26b0 := eq_true c26
                    have c26b1 : decide (((t188.extract 0 (t190 : Int).toNat) ++ (strOfNums y192)).size + (t188.extract ((ji23) : Int).toNat t188.size).size ≤ 9223372036854775807) = true := decide_eq_true c26
                    try have c26b2 : (9223372036854775807 < ((t188.extract 0 (t190 : Int).toNat) ++ (strOfNums y192)).size + (t188.extract ((ji23) : Int).toNat t188.size).size) = False := eq_false (Nat.not_lt.2 c26)
                    try have c26b9 : (9223372036854775807 < (t188.extract 0 (t190 : Int).toNat).size + (strOfNums y192).size + (t188.extract ((ji23) : Int).toNat t188.size).size) = False := by (have h_ := c26b2; rw [ByteArray.size_append] at h_; exact h_)
                    try have c26b98 : (9223372036854775807 < (t190 : Int).toNat + (strOfNums y192).size + (t188.size - ((ji23) : Int).toNat)) = False := by (have h_ := Nat.not_lt.2 c26; simp only [ByteArray.size_append, ByteArray.size_extract] at h_; have hle_ : t190 ≤ (t188.size : Int) := of_decide_eq_true (by assumption); exact eq_false (by simp at h_ ⊢; omega))
                    have H' := Aside0.mk H
                    clear H
                    try go_wp2
                    have n0_ := Aside0.mk (Kd.R_drew (Kd.R_drewN HO187.out (nd + ndb)))
                    have n1_ := Aside0.mk (below_drew1 (pw_below_drewN HB.out (nd + ndb)))
                    clear HO187
                    clear HB
                    have HO187 := n0_
                    have HB := n1_
                    clear n0_ n1_
                    refine start_ (n := 13) (S := fun w' => True) (ds := []) #[false, false, false, false, false, false, false, false, false, false, false, false, false] (by kernel_rfl) rfl rfl trivial (fun hHeld => ?_); refine with_tabW cachepotlaw25_WordBent.tab8 cachepotlaw25_WordBent.bits8 (fun HT_ HW_ => ?_)
                    generalize (w18.drewN (nd + ndb)).drew = w27 at HO187 HB hHeld ⊢
                    refine pure_ (i := 0) (N := some 40) (v := ?_) (a' := ?_) #[true, false, false, false, false, false, false, false, false, false, false, false, false] rfl rfl (any_of HT_.out (by kernel_rfl)) (fun _ _ _ h => h) (Or.inl ⟨by rfl, ?_⟩) ?_ ?_
                    rotate_left
                    · intro w'
                      go_simp
                      with_reducible rfl
                    rotate_left
                    · simp only [Act.put, List.setIfInBounds_toArray, List.set_cons_zero, List.set_cons_succ, i64_w, i32_w]
                      rfl
                    refine pure_ (i := 1) (N := some 41) (v := ?_) (a' := ?_) #[true, true, false, false, false, false, false, false, false, false, false, false, false] rfl rfl (any_of HT_.out (by kernel_rfl)) (fun _ _ _ h => h) (Or.inl ⟨by rfl, ?_⟩) ?_ ?_
                    rotate_left
                    · intro w'
                      go_simp
                      with_reducible rfl
                    rotate_left
                    · simp only [Act.put, List.setIfInBounds_toArray, List.set_cons_zero, List.set_cons_succ, i64_w, i32_w]
                      rfl
                    refine pure_ (i := 2) (N := some 42) (v := ?_) (a' := ?_) #[true, true, true, false, false, false, false, false, false, false, false, false, false] rfl rfl (any_of HT_.out (by kernel_rfl)) (fun _ _ _ h => h) (Or.inl ⟨by rfl, ?_⟩) ?_ ?_
                    rotate_left
                    · intro w'
                      go_simp
                      with_reducible rfl
                    rotate_left
                    · simp only [Act.put, List.setIfInBounds_toArray, List.set_cons_zero, List.set_cons_succ, i64_w, i32_w]
                      rfl
                    refine pure_ (i := 3) (N := some 43) (v := ?_) (a' := ?_) #[true, true, true, true, false, false, false, false, false, false, false, false, false] rfl rfl (any_of HT_.out (by kernel_rfl)) (fun _ _ _ h => h) (Or.inl ⟨by rfl, ?_⟩) ?_ ?_
                    rotate_left
                    · intro w'
                      go_simp
                      with_reducible rfl
                    rotate_left
                    · simp only [Act.put, List.setIfInBounds_toArray, List.set_cons_zero, List.set_cons_succ, i64_w, i32_w]
                      rfl
                    refine pure_ (i := 7) (N := some 47) (v := ?_) (a' := ?_) #[true, true, true, true, false, false, false, true, false, false, false, false, false] rfl rfl (any_of HT_.out (by kernel_rfl)) (fun _ _ _ h => h) (Or.inl ⟨by rfl, ?_⟩) ?_ ?_
                    rotate_left
                    · intro w'
                      go_simp
                      with_reducible rfl
                    rotate_left
                    · simp only [Act.put, List.setIfInBounds_toArray, List.set_cons_zero, List.set_cons_succ, i64_w, i32_w]
                      rfl
                    refine pure_ (i := 8) (N := some 48) (v := ?_) (a' := ?_) #[true, true, true, true, false, false, false, true, true, false, false, false, false] rfl rfl (any_of HT_.out (by kernel_rfl)) (fun _ _ _ h => h) (Or.inl ⟨by rfl, ?_⟩) ?_ ?_
                    rotate_left
                    · intro w'
                      go_simp
                      with_reducible rfl
                    rotate_left
                    · simp only [Act.put, List.setIfInBounds_toArray, List.set_cons_zero, List.set_cons_succ, i64_w, i32_w]
                      rfl
                    refine pure_ (i := 9) (N := some 49) (v := ?_) (a' := ?_) #[true, true, true, true, false, false, false, true, true, true, false, false, false] rfl rfl (any_of HT_.out (by kernel_rfl)) (fun _ _ _ h => h) (Or.inl ⟨by rfl, ?_⟩) ?_ ?_
                    rotate_left
                    · intro w'
                      go_simp
                      with_reducible rfl
                    rotate_left
                    · simp only [Act.put, List.setIfInBounds_toArray, List.set_cons_zero, List.set_cons_succ, i64_w, i32_w]
                      rfl
                    refine pure_ (i := 10) (N := some 50) (v := ?_) (a' := ?_) #[true, true, true, true, false, false, false, true, true, true, true, false, false] rfl rfl (any_of HT_.out (by kernel_rfl)) (fun _ _ _ h => h) (Or.inl ⟨by rfl, ?_⟩) ?_ ?_
                    rotate_left
                    · intro w'
                      go_simp
                      with_reducible rfl
                    rotate_left
                    · simp only [Act.put, List.setIfInBounds_toArray, List.set_cons_zero, List.set_cons_succ, i64_w, i32_w]
                      rfl
                    refine one_ (i := 4) (N := some 44) #[true, true, true, true, true, false, false, true, true, true, true, false, false] rfl rfl (one_of HT_.out (by kernel_rfl)) (by decide) (fun K hK => ?_)
                    refine Kd.R_lit_step (Kd.int .u8) _ 5 ?hg (N := 44) ?hd (xs := ([a3] : List Int)) (inner := [.int .u8 a3]) (ok := fun _ => True) (okp := fun _ => True) ?hr ?hp (fun _ hk => hk) trivial (Below.refl _ _) (Nat.le_refl _) (by simp) ?_; (case hd => rfl); (case hg => rfl); (case hr => first | (go_simp; done) | (go_simp; rfl)); (case hp => exact (Reps.one (show Kd.M (Kd.int .u8) _ _ _ a3 [.int .u8 a3] from rfl) (Reps.none _ _)))
                    intro v193 w28 ho29 hb hg_ hnew_
                    clear hg_ hnew_
                    (first | rw [← Ny192.out] at ho29 | (simp only [Int.reduceToNat] at ho29; rw [← Ny192.out] at ho29))
                    have n0_ := Aside0.mk (Kd.R_below (by (with_reducible repeat (first | apply Kd.R_alloc | apply Kd.R_drewN | apply Kd.R_drew)); exact HO187.out) hb)
                    have n1_ := Aside0.mk (Kd.R_lower ho29 (below_size (by repeat (first | (with_reducible first | exact HB.out | apply below_alloc | apply pw_below_drewN | apply below_drew1) | exact HB.out))))
                    have n2_ := Aside0.mk (below_step (by repeat (first | (with_reducible first | exact HB.out | apply below_alloc | apply pw_below_drewN | apply below_drew1) | exact HB.out)) hb)
                    clear HO187
                    clear HB
                    have HO187 := n0_
                    have HO194 := n1_
                    have HB := n2_
                    clear n0_ n1_ n2_
                    clear hb ho29
                    refine hK.out _ _ trivial (fun hHeld => ?_)
                    clear hK K
                    refine norm_ (a' := ?_) ?_ ?_
                    rotate_left
                    · show Act.put _ (some 44) _ = _
                      simp only [Act.put, List.setIfInBounds_toArray, List.set_cons_zero, List.set_cons_succ, i64_w, i32_w]
                      rfl
                    refine one_ (i := 5) (N := some 45) #[true, true, true, true, true, true, false, true, true, true, true, false, false] rfl rfl (one_of HT_.out (by kernel_rfl)) (by decide) (fun K hK => ?_)
                    have hcv30 := own_string (P := Tryd.prog) Tryd.underlying32 Tryd.underlying5 Tryd.underlying9 (Kd.own_of_R HO194.out)
                    refine value_ (w1 := ?_) (v := ?_) (by rfl) rfl ?_ ?_
                    rotate_left 2
                    · go_simp
                      constructor
                      · rfl
                      · rfl
                    clear hcv30
                    refine hK.out _ _ trivial (fun hHeld => ?_)
                    clear hK K
                    refine norm_ (a' := ?_) ?_ ?_
                    rotate_left
                    · show Act.put _ (some 45) _ = _
                      simp only [Act.put, List.setIfInBounds_toArray, List.set_cons_zero, List.set_cons_succ, i64_w, i32_w]
                      rfl
                    refine pure_ (i := 6) (N := some 46) (v := ?_) (a' := ?_) #[true, true, true, true, true, true, true, true, true, true, true, false, false] rfl rfl (any_of HT_.out (by kernel_rfl)) (fun _ _ _ h => h) (Or.inl ⟨by rfl, ?_⟩) ?_ ?_
                    rotate_left
                    · intro w'
                      go_simp
                      with_reducible rfl
                    rotate_left
                    · simp only [Act.put, List.setIfInBounds_toArray, List.set_cons_zero, List.set_cons_succ, i64_w, i32_w]
                      rfl
                    refine pure_ (i := 11) (N := some 51) (v := ?_) (a' := ?_) #[true, true, true, true, true, true, true, true, true, true, true, true, false] rfl rfl (any_of HT_.out (by kernel_rfl)) (fun _ _ _ h => h) (Or.inl ⟨by rfl, ?_⟩) ?_ ?_
                    rotate_left
                    · intro w'
                      go_simp
                      with_reducible rfl
                    rotate_left
                    · simp only [Act.put, List.setIfInBounds_toArray, List.set_cons_zero, List.set_cons_succ, i64_w, i32_w]
                      rfl
                    refine pure_ (i := 12) (N := some 9) (v := ?_) (a' := ?_) #[true, true, true, true, true, true, true, true, true, true, true, true, true] rfl rfl (any_of HT_.out (by kernel_rfl)) (fun _ _ _ h => h) (Or.inl ⟨by rfl, ?_⟩) ?_ ?_
                    rotate_left
                    · intro w'
                      go_simp
                      with_reducible rfl
                    rotate_left
                    · simp only [Act.put, List.setIfInBounds_toArray, List.set_cons_zero, List.set_cons_succ, i64_w, i32_w]
                      rfl
                    refine done_ (done_of HT_.out (by kernel_rfl)) ?_
                    try go_wp2
                    go_meet
                    case rel => exact ⟨_, (((t188.extract 0 (t190 : Int).toNat) ++ (strOfNums y192)) ++ (t188.extract ((ji23) : Int).toNat t188.size)), (by first | rfl | (simp; done) | (simp only [← hji23] <;> (first | rfl | simp)) | (simp [*]; done)), H', ⟨by first | omega | exact Nat.le_refl _⟩, ⟨by repeat (first | (with_reducible first | exact HB.out | apply below_alloc | apply pw_below_drewN | apply below_drew1) | exact HB.out)⟩⟩
                  · rw [if_neg c26] at H
                    exact absurd H (by simp)
                · rw [if_neg c25] at H
                  exact absurd H (by simp)
              · rw [if_neg c24] at H
                exact absurd H (by simp)
            · rw [if_neg c22] at H
              exact absurd H (by simp)
          · rw [if_neg c21] at H
            exact absurd H (by simp)
        · rw [if_neg c20] at H
          exact absurd H (by simp)
      · rw [if_neg c19] at H
        have c19b0 : (t191 == 0) = false := beq_eq_false_iff_ne.mpr c19
        have c19b1 : (t191 != 0) = true := bne_iff_ne.mpr c19
        (first | rw [c19b0] | (simp only [i64_w, i32_w]; rw [c19b0]) | skip)
        by_cases c31 : t191 = 1
        · rw [if_pos c31] at H
          have c31b0 : (t191 == 1) = true := beq_iff_eq.mpr c31
          have c31b1 : (t191 != 1) = false := bne_eq_false_iff_eq.mpr c31
          clear c31
          by_cases c32 : 0 ≤ t190
          · rw [if_pos c32] at H
            have c32b0 := eq_true c32
            have c32b1 : decide (0 ≤ t190) = true := decide_eq_true c32
            clear c32
            by_cases c33 : t190 ≤ (t188.size : Int)
            · rw [if_pos c33] at H
              have c33b0 := eq_true c33
              have c33b1 : decide (t190 ≤ (t188.size : Int)) = true := decide_eq_true c33
              clear c33
              obtain ⟨ji34, hji34⟩ : ∃ j_ : Int, (wrap64 (t190 + 1)) = j_ := ⟨_, rfl⟩
              replace H : (if 0 ≤ (ji34) then (if (ji34) ≤ (t188.size : Int) then (if (t188.extract 0 (t190 : Int).toNat).size + (t188.extract ((ji34) : Int).toNat t188.size).size ≤ 9223372036854775807 then (cachepotlaw25_WordBent.j0 k ((t188.extract 0 (t190 : Int).toNat) ++ (t188.extract ((ji34) : Int).toNat t188.size))) else (none)) else (none)) else (none)) = some r := by first | (rw [hji34] at H; exact H) | (simp only [hji34] at H ⊢; exact H)
              have hji34w : (IntKind.i64.wrap (t190 + 1)) = ji34 := (i64_w _).trans hji34
              by_cases c35 : 0 ≤ (ji34)
              · rw [if_pos c35] at H
                have c35b0 := eq_true c35
                have c35b1 : decide (0 ≤ (ji34)) = true := decide_eq_true c35
                clear c35
                by_cases c36 : (ji34) ≤ (t188.size : Int)
                · rw [if_pos c36] at H
                  have c36b0 := eq_true c36
                  have c36b1 : decide ((ji34) ≤ (t188.size : Int)) = true := decide_eq_true c36
                  clear c36
                  by_cases c37 : (t188.extract 0 (t190 : Int).toNat).size + (t188.extract ((ji34) : Int).toNat t188.size).size ≤ 9223372036854775807
                  · rw [if_pos c37] at H
                    have c37b0 := eq_true c37
                    have c37b1 : decide ((t188.extract 0 (t190 : Int).toNat).size + (t188.extract ((ji34) : Int).toNat t188.size).size ≤ 9223372036854775807) = true := decide_eq_true c37
                    try have c37b2 : (9223372036854775807 < (t188.extract 0 (t190 : Int).toNat).size + (t188.extract ((ji34) : Int).toNat t188.size).size) = False := eq_false (Nat.not_lt.2 c37)
                    try have c37b28 : (9223372036854775807 < (t190 : Int).toNat + (t188.size - ((ji34) : Int).toNat)) = False := by (have h_ := Nat.not_lt.2 c37; simp only [ByteArray.size_append, ByteArray.size_extract] at h_; have hle_ : t190 ≤ (t188.size : Int) := of_decide_eq_true (by assumption); exact eq_false (by simp at h_ ⊢; omega))
                    have H' := Aside0.mk H
                    clear H
                    try go_wp2
                    have n0_ := Aside0.mk (Kd.R_drew (Kd.R_drewN HO187.out (nd + ndb)))
                    have n1_ := Aside0.mk (below_drew1 (pw_below_drewN HB.out (nd + ndb)))
                    clear HO187
                    clear HB
                    have HO187 := n0_
                    have HB := n1_
                    clear n0_ n1_
                    refine start_ (n := 9) (S := fun w' => True) (ds := []) #[false, false, false, false, false, false, false, false, false] (by kernel_rfl) rfl rfl trivial (fun hHeld => ?_); refine with_tabW cachepotlaw25_WordBent.tab10 cachepotlaw25_WordBent.bits10 (fun HT_ HW_ => ?_)
                    generalize (w18.drewN (nd + ndb)).drew = w38 at HO187 HB hHeld ⊢
                    refine pure_ (i := 0) (N := some 54) (v := ?_) (a' := ?_) #[true, false, false, false, false, false, false, false, false] rfl rfl (any_of HT_.out (by kernel_rfl)) (fun _ _ _ h => h) (Or.inl ⟨by rfl, ?_⟩) ?_ ?_
                    rotate_left
                    · intro w'
                      go_simp
                      with_reducible rfl
                    rotate_left
                    · simp only [Act.put, List.setIfInBounds_toArray, List.set_cons_zero, List.set_cons_succ, i64_w, i32_w]
                      rfl
                    refine pure_ (i := 1) (N := some 55) (v := ?_) (a' := ?_) #[true, true, false, false, false, false, false, false, false] rfl rfl (any_of HT_.out (by kernel_rfl)) (fun _ _ _ h => h) (Or.inl ⟨by rfl, ?_⟩) ?_ ?_
                    rotate_left
                    · intro w'
                      go_simp
                      with_reducible rfl
                    rotate_left
                    · simp only [Act.put, List.setIfInBounds_toArray, List.set_cons_zero, List.set_cons_succ, i64_w, i32_w]
                      rfl
                    refine pure_ (i := 2) (N := some 56) (v := ?_) (a' := ?_) #[true, true, true, false, false, false, false, false, false] rfl rfl (any_of HT_.out (by kernel_rfl)) (fun _ _ _ h => h) (Or.inl ⟨by rfl, ?_⟩) ?_ ?_
                    rotate_left
                    · intro w'
                      go_simp
                      with_reducible rfl
                    rotate_left
                    · simp only [Act.put, List.setIfInBounds_toArray, List.set_cons_zero, List.set_cons_succ, i64_w, i32_w]
                      rfl
                    refine pure_ (i := 3) (N := some 57) (v := ?_) (a' := ?_) #[true, true, true, true, false, false, false, false, false] rfl rfl (any_of HT_.out (by kernel_rfl)) (fun _ _ _ h => h) (Or.inl ⟨by rfl, ?_⟩) ?_ ?_
                    rotate_left
                    · intro w'
                      go_simp
                      with_reducible rfl
                    rotate_left
                    · simp only [Act.put, List.setIfInBounds_toArray, List.set_cons_zero, List.set_cons_succ, i64_w, i32_w]
                      rfl
                    refine pure_ (i := 4) (N := some 58) (v := ?_) (a' := ?_) #[true, true, true, true, true, false, false, false, false] rfl rfl (any_of HT_.out (by kernel_rfl)) (fun _ _ _ h => h) (Or.inl ⟨by rfl, ?_⟩) ?_ ?_
                    rotate_left
                    · intro w'
                      go_simp
                      with_reducible rfl
                    rotate_left
                    · simp only [Act.put, List.setIfInBounds_toArray, List.set_cons_zero, List.set_cons_succ, i64_w, i32_w]
                      rfl
                    refine pure_ (i := 5) (N := some 59) (v := ?_) (a' := ?_) #[true, true, true, true, true, true, false, false, false] rfl rfl (any_of HT_.out (by kernel_rfl)) (fun _ _ _ h => h) (Or.inl ⟨by rfl, ?_⟩) ?_ ?_
                    rotate_left
                    · intro w'
                      go_simp
                      with_reducible rfl
                    rotate_left
                    · simp only [Act.put, List.setIfInBounds_toArray, List.set_cons_zero, List.set_cons_succ, i64_w, i32_w]
                      rfl
                    refine pure_ (i := 6) (N := some 60) (v := ?_) (a' := ?_) #[true, true, true, true, true, true, true, false, false] rfl rfl (any_of HT_.out (by kernel_rfl)) (fun _ _ _ h => h) (Or.inl ⟨by rfl, ?_⟩) ?_ ?_
                    rotate_left
                    · intro w'
                      go_simp
                      with_reducible rfl
                    rotate_left
                    · simp only [Act.put, List.setIfInBounds_toArray, List.set_cons_zero, List.set_cons_succ, i64_w, i32_w]
                      rfl
                    refine pure_ (i := 7) (N := some 61) (v := ?_) (a' := ?_) #[true, true, true, true, true, true, true, true, false] rfl rfl (any_of HT_.out (by kernel_rfl)) (fun _ _ _ h => h) (Or.inl ⟨by rfl, ?_⟩) ?_ ?_
                    rotate_left
                    · intro w'
                      go_simp
                      with_reducible rfl
                    rotate_left
                    · simp only [Act.put, List.setIfInBounds_toArray, List.set_cons_zero, List.set_cons_succ, i64_w, i32_w]
                      rfl
                    refine pure_ (i := 8) (N := some 9) (v := ?_) (a' := ?_) #[true, true, true, true, true, true, true, true, true] rfl rfl (any_of HT_.out (by kernel_rfl)) (fun _ _ _ h => h) (Or.inl ⟨by rfl, ?_⟩) ?_ ?_
                    rotate_left
                    · intro w'
                      go_simp
                      with_reducible rfl
                    rotate_left
                    · simp only [Act.put, List.setIfInBounds_toArray, List.set_cons_zero, List.set_cons_succ, i64_w, i32_w]
                      rfl
                    refine done_ (done_of HT_.out (by kernel_rfl)) ?_
                    try go_wp2
                    go_meet
                    case rel => exact ⟨_, ((t188.extract 0 (t190 : Int).toNat) ++ (t188.extract ((ji34) : Int).toNat t188.size)), (by first | rfl | (simp; done) | (simp only [← hji34] <;> (first | rfl | simp)) | (simp [*]; done)), H', ⟨by first | omega | exact Nat.le_refl _⟩, ⟨by repeat (first | (with_reducible first | exact HB.out | apply below_alloc | apply pw_below_drewN | apply below_drew1) | exact HB.out)⟩⟩
                  · rw [if_neg c37] at H
                    exact absurd H (by simp)
                · rw [if_neg c36] at H
                  exact absurd H (by simp)
              · rw [if_neg c35] at H
                exact absurd H (by simp)
            · rw [if_neg c33] at H
              exact absurd H (by simp)
          · rw [if_neg c32] at H
            exact absurd H (by simp)
        · rw [if_neg c31] at H
          have c31b0 : (t191 == 1) = false := beq_eq_false_iff_ne.mpr c31
          have c31b1 : (t191 != 1) = true := bne_iff_ne.mpr c31
          by_cases c39 : 0 ≤ t190
          · rw [if_pos c39] at H
            have c39b0 := eq_true c39
            have c39b1 : decide (0 ≤ t190) = true := decide_eq_true c39
            clear c39
            by_cases c40 : t190 ≤ (t188.size : Int)
            · rw [if_pos c40] at H
              have c40b0 := eq_true c40
              have c40b1 : decide (t190 ≤ (t188.size : Int)) = true := decide_eq_true c40
              clear c40
              obtain ⟨y195, hy195⟩ : ∃ y_ : List Int, y_ = (([a3] : List Int)) := ⟨_, rfl⟩
              replace H : (if (t188.extract 0 (t190 : Int).toNat).size + (strOfNums y195).size ≤ 9223372036854775807 then (if ((t188.extract 0 (t190 : Int).toNat) ++ (strOfNums y195)).size + (t188.extract (t190 : Int).toNat t188.size).size ≤ 9223372036854775807 then (cachepotlaw25_WordBent.j0 k (((t188.extract 0 (t190 : Int).toNat) ++ (strOfNums y195)) ++ (t188.extract (t190 : Int).toNat t188.size))) else (none)) else (none)) = some r := by first | (rw [hy195]; with_reducible exact H) | (have H2_ := (Option.bind_some _ _).symm.trans H; rw [hy195]; with_reducible exact H2_) | (have H2_ := (Option.bind_some _ _).symm.trans H; with_reducible exact H2_) | with_reducible exact H | (rw [hy195]; exact H) | exact H
              have Ny195 := Aside0.mk hy195
              clear hy195
              by_cases c41 : (t188.extract 0 (t190 : Int).toNat).size + (strOfNums y195).size ≤ 9223372036854775807
              · rw [if_pos c41] at H
                have c41b0 := eq_true c41
                have c41b1 : decide ((t188.extract 0 (t190 : Int).toNat).size + (strOfNums y195).size ≤ 9223372036854775807) = true := decide_eq_true c41
                try have c41b2 : (9223372036854775807 < (t188.extract 0 (t190 : Int).toNat).size + (strOfNums y195).size) = False := eq_false (Nat.not_lt.2 c41)
                try have c41b28 : (9223372036854775807 < (t190 : Int).toNat + (strOfNums y195).size) = False := by (have h_ := Nat.not_lt.2 c41; simp only [ByteArray.size_append, ByteArray.size_extract] at h_; have hle_ : t190 ≤ (t188.size : Int) := of_decide_eq_true (by assumption); exact eq_false (by simp at h_ ⊢; omega))
                have c42b0 := eq_true (of_decide_eq_true (by first | (with_reducible assumption) | assumption) : 0 ≤ t190)
                have c43b0 := eq_true (of_decide_eq_true (by first | (with_reducible assumption) | assumption) : t190 ≤ (t188.size : Int))
                by_cases c44 : ((t188.extract 0 (t190 : Int).toNat) ++ (strOfNums y195)).size + (t188.extract (t190 : Int).toNat t188.size).size ≤ 9223372036854775807
                · rw [if_pos c44] at H
                  have c44b0 := eq_true c44
                  have c44b1 : decide (((t188.extract 0 (t190 : Int).toNat) ++ (strOfNums y195)).size + (t188.extract (t190 : Int).toNat t188.size).size ≤ 9223372036854775807) = true := decide_eq_true c44
                  try have c44b2 : (9223372036854775807 < ((t188.extract 0 (t190 : Int).toNat) ++ (strOfNums y195)).size + (t188.extract (t190 : Int).toNat t188.size).size) = False := eq_false (Nat.not_lt.2 c44)
                  try have c44b9 : (9223372036854775807 < (t188.extract 0 (t190 : Int).toNat).size + (strOfNums y195).size + (t188.extract (t190 : Int).toNat t188.size).size) = False := by (have h_ := c44b2; rw [ByteArray.size_append] at h_; exact h_)
                  try have c44b98 : (9223372036854775807 < (t190 : Int).toNat + (strOfNums y195).size + (t188.size - (t190 : Int).toNat)) = False := by (have h_ := Nat.not_lt.2 c44; simp only [ByteArray.size_append, ByteArray.size_extract] at h_; have hle_ : t190 ≤ (t188.size : Int) := of_decide_eq_true (by assumption); exact eq_false (by simp at h_ ⊢; omega))
                  have H' := Aside0.mk H
                  clear H
                  try go_wp2
                  have n0_ := Aside0.mk (Kd.R_drew (Kd.R_drewN HO187.out (nd + ndb)))
                  have n1_ := Aside0.mk (below_drew1 (pw_below_drewN HB.out (nd + ndb)))
                  clear HO187
                  clear HB
                  have HO187 := n0_
                  have HB := n1_
                  clear n0_ n1_
                  refine start_ (n := 12) (S := fun w' => True) (ds := []) #[false, false, false, false, false, false, false, false, false, false, false, false] (by kernel_rfl) rfl rfl trivial (fun hHeld => ?_); refine with_tabW cachepotlaw25_WordBent.tab6 cachepotlaw25_WordBent.bits6 (fun HT_ HW_ => ?_)
                  generalize (w18.drewN (nd + ndb)).drew = w45 at HO187 HB hHeld ⊢
                  refine pure_ (i := 0) (N := some 27) (v := ?_) (a' := ?_) #[true, false, false, false, false, false, false, false, false, false, false, false] rfl rfl (any_of HT_.out (by kernel_rfl)) (fun _ _ _ h => h) (Or.inl ⟨by rfl, ?_⟩) ?_ ?_
                  rotate_left
                  · intro w'
                    go_simp
                    with_reducible rfl
                  rotate_left
                  · simp only [Act.put, List.setIfInBounds_toArray, List.set_cons_zero, List.set_cons_succ, i64_w, i32_w]
                    rfl
                  refine pure_ (i := 1) (N := some 28) (v := ?_) (a' := ?_) #[true, true, false, false, false, false, false, false, false, false, false, false] rfl rfl (any_of HT_.out (by kernel_rfl)) (fun _ _ _ h => h) (Or.inl ⟨by rfl, ?_⟩) ?_ ?_
                  rotate_left
                  · intro w'
                    go_simp
                    with_reducible rfl
                  rotate_left
                  · simp only [Act.put, List.setIfInBounds_toArray, List.set_cons_zero, List.set_cons_succ, i64_w, i32_w]
                    rfl
                  refine pure_ (i := 2) (N := some 29) (v := ?_) (a' := ?_) #[true, true, true, false, false, false, false, false, false, false, false, false] rfl rfl (any_of HT_.out (by kernel_rfl)) (fun _ _ _ h => h) (Or.inl ⟨by rfl, ?_⟩) ?_ ?_
                  rotate_left
                  · intro w'
                    go_simp
                    with_reducible rfl
                  rotate_left
                  · simp only [Act.put, List.setIfInBounds_toArray, List.set_cons_zero, List.set_cons_succ, i64_w, i32_w]
                    rfl
                  refine pure_ (i := 3) (N := some 30) (v := ?_) (a' := ?_) #[true, true, true, true, false, false, false, false, false, false, false, false] rfl rfl (any_of HT_.out (by kernel_rfl)) (fun _ _ _ h => h) (Or.inl ⟨by rfl, ?_⟩) ?_ ?_
                  rotate_left
                  · intro w'
                    go_simp
                    with_reducible rfl
                  rotate_left
                  · simp only [Act.put, List.setIfInBounds_toArray, List.set_cons_zero, List.set_cons_succ, i64_w, i32_w]
                    rfl
                  refine pure_ (i := 7) (N := some 34) (v := ?_) (a' := ?_) #[true, true, true, true, false, false, false, true, false, false, false, false] rfl rfl (any_of HT_.out (by kernel_rfl)) (fun _ _ _ h => h) (Or.inl ⟨by rfl, ?_⟩) ?_ ?_
                  rotate_left
                  · intro w'
                    go_simp
                    with_reducible rfl
                  rotate_left
                  · simp only [Act.put, List.setIfInBounds_toArray, List.set_cons_zero, List.set_cons_succ, i64_w, i32_w]
                    rfl
                  refine pure_ (i := 8) (N := some 35) (v := ?_) (a' := ?_) #[true, true, true, true, false, false, false, true, true, false, false, false] rfl rfl (any_of HT_.out (by kernel_rfl)) (fun _ _ _ h => h) (Or.inl ⟨by rfl, ?_⟩) ?_ ?_
                  rotate_left
                  · intro w'
                    go_simp
                    with_reducible rfl
                  rotate_left
                  · simp only [Act.put, List.setIfInBounds_toArray, List.set_cons_zero, List.set_cons_succ, i64_w, i32_w]
                    rfl
                  refine pure_ (i := 9) (N := some 36) (v := ?_) (a' := ?_) #[true, true, true, true, false, false, false, true, true, true, false, false] rfl rfl (any_of HT_.out (by kernel_rfl)) (fun _ _ _ h => h) (Or.inl ⟨by rfl, ?_⟩) ?_ ?_
                  rotate_left
                  · intro w'
                    go_simp
                    with_reducible rfl
                  rotate_left
                  · simp only [Act.put, List.setIfInBounds_toArray, List.set_cons_zero, List.set_cons_succ, i64_w, i32_w]
                    rfl
                  refine one_ (i := 4) (N := some 31) #[true, true, true, true, true, false, false, true, true, true, false, false] rfl rfl (one_of HT_.out (by kernel_rfl)) (by decide) (fun K hK => ?_)
                  refine Kd.R_lit_step (Kd.int .u8) _ 5 ?hg (N := 31) ?hd (xs := ([a3] : List Int)) (inner := [.int .u8 a3]) (ok := fun _ => True) (okp := fun _ => True) ?hr ?hp (fun _ hk => hk) trivial (Below.refl _ _) (Nat.le_refl _) (by simp) ?_; (case hd => rfl); (case hg => rfl); (case hr => first | (go_simp; done) | (go_simp; rfl)); (case hp => exact (Reps.one (show Kd.M (Kd.int .u8) _ _ _ a3 [.int .u8 a3] from rfl) (Reps.none _ _)))
                  intro v196 w46 ho47 hb hg_ hnew_
                  clear hg_ hnew_
                  (first | rw [← Ny195.out] at ho47 | (simp only [Int.reduceToNat] at ho47; rw [← Ny195.out] at ho47))
                  have n0_ := Aside0.mk (Kd.R_below (by (with_reducible repeat (first | apply Kd.R_alloc | apply Kd.R_drewN | apply Kd.R_drew)); exact HO187.out) hb)
                  have n1_ := Aside0.mk (Kd.R_lower ho47 (below_size (by repeat (first | (with_reducible first | exact HB.out | apply below_alloc | apply pw_below_drewN | apply below_drew1) | exact HB.out))))
                  have n2_ := Aside0.mk (below_step (by repeat (first | (with_reducible first | exact HB.out | apply below_alloc | apply pw_below_drewN | apply below_drew1) | exact HB.out)) hb)
                  clear HO187
                  clear HB
                  have HO187 := n0_
                  have HO197 := n1_
                  have HB := n2_
                  clear n0_ n1_ n2_
                  clear hb ho47
                  refine hK.out _ _ trivial (fun hHeld => ?_)
                  clear hK K
                  refine norm_ (a' := ?_) ?_ ?_
                  rotate_left
                  · show Act.put _ (some 31) _ = _
                    simp only [Act.put, List.setIfInBounds_toArray, List.set_cons_zero, List.set_cons_succ, i64_w, i32_w]
                    rfl
                  refine one_ (i := 5) (N := some 32) #[true, true, true, true, true, true, false, true, true, true, false, false] rfl rfl (one_of HT_.out (by kernel_rfl)) (by decide) (fun K hK => ?_)
                  have hcv48 := own_string (P := Tryd.prog) Tryd.underlying32 Tryd.underlying5 Tryd.underlying9 (Kd.own_of_R HO197.out)
                  refine value_ (w1 := ?_) (v := ?_) (by rfl) rfl ?_ ?_
                  rotate_left 2
                  · go_simp
                    constructor
                    · rfl
                    · rfl
                  clear hcv48
                  refine hK.out _ _ trivial (fun hHeld => ?_)
                  clear hK K
                  refine norm_ (a' := ?_) ?_ ?_
                  rotate_left
                  · show Act.put _ (some 32) _ = _
                    simp only [Act.put, List.setIfInBounds_toArray, List.set_cons_zero, List.set_cons_succ, i64_w, i32_w]
                    rfl
                  refine pure_ (i := 6) (N := some 33) (v := ?_) (a' := ?_) #[true, true, true, true, true, true, true, true, true, true, false, false] rfl rfl (any_of HT_.out (by kernel_rfl)) (fun _ _ _ h => h) (Or.inl ⟨by rfl, ?_⟩) ?_ ?_
                  rotate_left
                  · intro w'
                    go_simp
                    with_reducible rfl
                  rotate_left
                  · simp only [Act.put, List.setIfInBounds_toArray, List.set_cons_zero, List.set_cons_succ, i64_w, i32_w]
                    rfl
                  refine pure_ (i := 10) (N := some 37) (v := ?_) (a' := ?_) #[true, true, true, true, true, true, true, true, true, true, true, false] rfl rfl (any_of HT_.out (by kernel_rfl)) (fun _ _ _ h => h) (Or.inl ⟨by rfl, ?_⟩) ?_ ?_
                  rotate_left
                  · intro w'
                    go_simp
                    with_reducible rfl
                  rotate_left
                  · simp only [Act.put, List.setIfInBounds_toArray, List.set_cons_zero, List.set_cons_succ, i64_w, i32_w]
                    rfl
                  refine pure_ (i := 11) (N := some 9) (v := ?_) (a' := ?_) #[true, true, true, true, true, true, true, true, true, true, true, true] rfl rfl (any_of HT_.out (by kernel_rfl)) (fun _ _ _ h => h) (Or.inl ⟨by rfl, ?_⟩) ?_ ?_
                  rotate_left
                  · intro w'
                    go_simp
                    with_reducible rfl
                  rotate_left
                  · simp only [Act.put, List.setIfInBounds_toArray, List.set_cons_zero, List.set_cons_succ, i64_w, i32_w]
                    rfl
                  refine done_ (done_of HT_.out (by kernel_rfl)) ?_
                  try go_wp2
                  go_meet
                  case rel => exact ⟨_, (((t188.extract 0 (t190 : Int).toNat) ++ (strOfNums y195)) ++ (t188.extract (t190 : Int).toNat t188.size)), (by first | rfl | (simp; done) | (simp [*]; done)), H', ⟨by first | omega | exact Nat.le_refl _⟩, ⟨by repeat (first | (with_reducible first | exact HB.out | apply below_alloc | apply pw_below_drewN | apply below_drew1) | exact HB.out)⟩⟩
                · rw [if_neg c44] at H
                  exact absurd H (by simp)
              · rw [if_neg c41] at H
                exact absurd H (by simp)
            · rw [if_neg c40] at H
              exact absurd H (by simp)
          · rw [if_neg c39] at H
            exact absurd H (by simp)
    case rest =>
      clear HC15
      try clear c1
      try clear c2
      try clear p2
      try clear c3
      try clear hcv3
      try clear c4
      try clear hcv4
      try clear p6
      try clear c7
      try clear c7b0
      try clear c7b1
      try clear c19
      try clear c19b0
      try clear c19b1
      try clear c20
      try clear c20b0
      try clear c20b1
      try clear c21
      try clear c21b0
      try clear c21b1
      try clear c22
      try clear c22b0
      try clear c22b1
      try clear c22b2
      try clear c23
      try clear c24
      try clear c24b0
      try clear c24b1
      try clear c25
      try clear c25b0
      try clear c25b1
      try clear c26
      try clear c26b0
      try clear c26b1
      try clear c26b2
      try clear hcv30
      try clear c31
      try clear c31b0
      try clear c31b1
      try clear c32
      try clear c32b0
      try clear c32b1
      try clear c33
      try clear c33b0
      try clear c33b1
      try clear c35
      try clear c35b0
      try clear c35b1
      try clear c36
      try clear c36b0
      try clear c36b1
      try clear c37
      try clear c37b0
      try clear c37b1
      try clear c37b2
      try clear c39
      try clear c39b0
      try clear c39b1
      try clear c40
      try clear c40b0
      try clear c40b1
      try clear c41
      try clear c41b0
      try clear c41b1
      try clear c41b2
      try clear c42
      try clear c42b0
      try clear c43
      try clear c43b0
      try clear c44
      try clear c44b0
      try clear c44b1
      try clear c44b2
      try clear hcv48
      obtain ⟨kq, x9_14, rfl, HA, HJ14, HB⟩ := hcut
      cases kq with
      | zero => exact absurd HA.out (by simp [cachepotlaw25_WordBent.j0])
      | succ kj14 =>
        have H := HA.out
        clear HA
        simp only [cachepotlaw25_WordBent.j0] at H
        replace H := Option.bind_eq_some_iff.mp H
        obtain ⟨⟨t198, t199⟩, A490, H⟩ := H
        replace H : ((cachepotref3_Split.f kj14 x9_14).bind fun bt202 => ((cachepotlaw25_alive.f kj14).bind fun t206 => (if t206 = true then (if t199 = bt202.2 then ((cachepotbook_SameTexts.f kj14 t198 bt202.1).bind fun t207 => (some t207)) else (some false)) else (some false)))) = some r := H
        have A49 := Aside0.mk A490
        clear A490
        replace H := Option.bind_eq_some_iff.mp H
        obtain ⟨⟨t202, t203⟩, A500, H⟩ := H
        replace H : ((cachepotlaw25_alive.f kj14).bind fun t206 => (if t206 = true then (if t199 = t203 then ((cachepotbook_SameTexts.f kj14 t198 t202).bind fun t207 => (some t207)) else (some false)) else (some false))) = some r := H
        have A50 := Aside0.mk A500
        clear A500
        replace H := Option.bind_eq_some_iff.mp H
        obtain ⟨t206, A510, H⟩ := H
        replace H : (if t206 = true then (if t199 = t203 then ((cachepotbook_SameTexts.f kj14 t198 t202).bind fun t207 => (some t207)) else (some false)) else (some false)) = some r := H
        have A51 := Aside0.mk A510
        clear A510
        by_cases c52 : t206 = true
        · subst c52
          have H1 : (if t199 = t203 then ((cachepotbook_SameTexts.f kj14 t198 t202).bind fun t207 => (some t207)) else (some false)) = some r := by rw [if_pos rfl] at H; exact H
          clear H
          have H := H1
          clear H1
          by_cases c53 : t199 = t203
          · rw [if_pos c53] at H
            have c53b0 : (t199 == t203) = true := beq_iff_eq.mpr c53
            have c53b1 : (t199 != t203) = false := bne_eq_false_iff_eq.mpr c53
            clear c53
            replace H := Option.bind_eq_some_iff.mp H
            obtain ⟨t207, A540, H⟩ := H
            replace H : (some t207) = some r := H
            have A54 := Aside0.mk A540
            clear A540
            obtain rfl := Option.some.inj H
            go_wp2_with (first | ((with_reducible refine gate_callee (f := 19) rfl ?_); refine goesL_ (some 64) rfl rfl Tryd.func19 (by kernel_rfl) rfl #[.string x9_14] rfl (by (try simp only [List.map_toArray, List.map_cons, List.map_nil]); first | done | rfl | (simp only [List.length_drop, List.length_take]; rfl)) ?_; (with_reducible refine (word_Split.calls kj14 x9_14 t198 t199 _ A49.out (by first | exact hT | (refine Tabs.below hT ?_; (repeat (first | (with_reducible first | exact HB.out | exact Below.refl _ _ | apply below_alloc | apply pw_below_drewN | apply below_drew1) | exact HB.out))))).mono ?_); rintro e w55 ⟨v200, rfl, ho0, hb⟩; refine ⟨_, rfl, ?_⟩; have n0_ := Aside0.mk (Kd.R_lower ho0 (below_size (by repeat (first | (with_reducible first | exact HB.out | apply below_alloc | apply pw_below_drewN | apply below_drew1) | exact HB.out)))); have n1_ := Aside0.mk (below_step (by repeat (first | (with_reducible first | exact HB.out | apply below_alloc | apply pw_below_drewN | apply below_drew1) | exact HB.out)) hb); clear HB; have HO201 := n0_; have HB := n1_; clear n0_ n1_; (try clear hb); (try clear hb2); (try clear hk); (try clear hi); (try clear ho0)) | ((with_reducible refine gate_callee (f := 20) rfl ?_); refine goesL_ (some 69) rfl rfl Tryd.func20 (by kernel_rfl) rfl #[.string x9_14] rfl (by (try simp only [List.map_toArray, List.map_cons, List.map_nil]); first | done | rfl | (simp only [List.length_drop, List.length_take]; rfl)) ?_; (with_reducible refine (cachepotref3_Split.calls kj14 x9_14 t202 t203 _ A50.out).mono ?_); rintro e w56 ⟨v204, rfl, ho0, hb⟩; refine ⟨_, rfl, ?_⟩; have n0_ := Aside0.mk (Kd.R_elder' (by (with_reducible repeat (first | apply Kd.R_alloc | apply Kd.R_drewN | apply Kd.R_drew)); exact HO201.out) (Kd.R_base ho0) hb); have n1_ := Aside0.mk (Kd.R_lower (Kd.R_new' ho0 (Kd.R_lt (by (with_reducible repeat (first | apply Kd.R_alloc | apply Kd.R_drewN | apply Kd.R_drew)); exact HO201.out))) (below_size (by repeat (first | (with_reducible first | exact HB.out | apply below_alloc | apply pw_below_drewN | apply below_drew1) | exact HB.out)))); have n2_ := Aside0.mk (below_step (by repeat (first | (with_reducible first | exact HB.out | apply below_alloc | apply pw_below_drewN | apply below_drew1) | exact HB.out)) hb); clear HO201; clear HB; have HO201 := n0_; have HO205 := n1_; have HB := n2_; clear n0_ n1_ n2_; (try clear hb); (try clear hb2); (try clear hk); (try clear hi); (try clear ho0)) | ((with_reducible refine gate_callee (f := 21) rfl ?_); refine goesL_ (some 72) rfl rfl Tryd.func21 (by kernel_rfl) rfl #[] rfl (by (try simp only [List.map_toArray, List.map_cons, List.map_nil]); first | done | rfl | (simp only [List.length_drop, List.length_take]; rfl)) ?_; (with_reducible refine (cachepotlaw25_alive.calls kj14  true _ A51.out (by first | exact hT | (refine Tabs.below hT ?_; (repeat (first | (with_reducible first | exact HB.out | exact Below.refl _ _ | apply below_alloc | apply pw_below_drewN | apply below_drew1) | exact HB.out))))).mono ?_); rintro e w57 ⟨rfl, hb⟩; refine ⟨_, rfl, ?_⟩; have n0_ := Aside0.mk (Kd.R_below (by (with_reducible repeat (first | apply Kd.R_alloc | apply Kd.R_drewN | apply Kd.R_drew)); exact HO201.out) hb); have n1_ := Aside0.mk (Kd.R_below (by (with_reducible repeat (first | apply Kd.R_alloc | apply Kd.R_drewN | apply Kd.R_drew)); exact HO205.out) hb); have n2_ := Aside0.mk (below_step (by repeat (first | (with_reducible first | exact HB.out | apply below_alloc | apply pw_below_drewN | apply below_drew1) | exact HB.out)) hb); clear HO201; clear HO205; clear HB; have HO201 := n0_; have HO205 := n1_; have HB := n2_; clear n0_ n1_ n2_; (try clear hb); (try clear hb2); (try clear hk); (try clear hi); obtain ⟨Ao58, co58, eo58⟩ := Kd.R_slice HO201.out; subst eo58; obtain ⟨Ao59, co59, eo59⟩ := Kd.R_slice HO205.out; subst eo59) | (go_at_call 22; (with_reducible refine (cachepotbook_SameTexts.calls kj14 _ _ t198 _ _ t202 t207 _ ?side1 ?side2 ?side3 ?side4 A54.out).mono ?_); (case side1 => repeat (first | exact (Kd.R_reads' HO201.out).2.2 | (with_reducible refine Kd.C_alloc ?_ _) | (with_reducible refine Kd.C_drewN ?_ _) | (with_reducible refine Kd.C_drew ?_))); (case side2 => exact (Kd.R_reads' HO201.out).2.1); (case side3 => repeat (first | exact (Kd.R_reads' HO205.out).2.2 | (with_reducible refine Kd.C_alloc ?_ _) | (with_reducible refine Kd.C_drewN ?_ _) | (with_reducible refine Kd.C_drew ?_))); (case side4 => exact (Kd.R_reads' HO205.out).2.1); rintro e w' ⟨rfl, ⟨nd, rfl⟩⟩))
            go_ret
            exact ⟨by first | rfl | (simp [errW_none, errW_some] <;> rfl) | (simp [*, errW_none, errW_some] <;> rfl), by repeat (first | (with_reducible first | exact HB.out | apply below_alloc | apply pw_below_drewN | apply below_drew1) | exact HB.out)⟩
          · rw [if_neg c53] at H
            have c53b0 : (t199 == t203) = false := beq_eq_false_iff_ne.mpr c53
            have c53b1 : (t199 != t203) = true := bne_iff_ne.mpr c53
            obtain rfl := Option.some.inj H
            go_wp2_with (first | ((with_reducible refine gate_callee (f := 19) rfl ?_); refine goesL_ (some 64) rfl rfl Tryd.func19 (by kernel_rfl) rfl #[.string x9_14] rfl (by (try simp only [List.map_toArray, List.map_cons, List.map_nil]); first | done | rfl | (simp only [List.length_drop, List.length_take]; rfl)) ?_; (with_reducible refine (word_Split.calls kj14 x9_14 t198 t199 _ A49.out (by first | exact hT | (refine Tabs.below hT ?_; (repeat (first | (with_reducible first | exact HB.out | exact Below.refl _ _ | apply below_alloc | apply pw_below_drewN | apply below_drew1) | exact HB.out))))).mono ?_); rintro e w60 ⟨v200, rfl, ho0, hb⟩; refine ⟨_, rfl, ?_⟩; have n0_ := Aside0.mk (Kd.R_lower ho0 (below_size (by repeat (first | (with_reducible first | exact HB.out | apply below_alloc | apply pw_below_drewN | apply below_drew1) | exact HB.out)))); have n1_ := Aside0.mk (below_step (by repeat (first | (with_reducible first | exact HB.out | apply below_alloc | apply pw_below_drewN | apply below_drew1) | exact HB.out)) hb); clear HB; have HO201 := n0_; have HB := n1_; clear n0_ n1_; (try clear hb); (try clear hb2); (try clear hk); (try clear hi); (try clear ho0)) | ((with_reducible refine gate_callee (f := 20) rfl ?_); refine goesL_ (some 69) rfl rfl Tryd.func20 (by kernel_rfl) rfl #[.string x9_14] rfl (by (try simp only [List.map_toArray, List.map_cons, List.map_nil]); first | done | rfl | (simp only [List.length_drop, List.length_take]; rfl)) ?_; (with_reducible refine (cachepotref3_Split.calls kj14 x9_14 t202 t203 _ A50.out).mono ?_); rintro e w61 ⟨v204, rfl, ho0, hb⟩; refine ⟨_, rfl, ?_⟩; have n0_ := Aside0.mk (Kd.R_elder' (by (with_reducible repeat (first | apply Kd.R_alloc | apply Kd.R_drewN | apply Kd.R_drew)); exact HO201.out) (Kd.R_base ho0) hb); have n1_ := Aside0.mk (Kd.R_lower (Kd.R_new' ho0 (Kd.R_lt (by (with_reducible repeat (first | apply Kd.R_alloc | apply Kd.R_drewN | apply Kd.R_drew)); exact HO201.out))) (below_size (by repeat (first | (with_reducible first | exact HB.out | apply below_alloc | apply pw_below_drewN | apply below_drew1) | exact HB.out)))); have n2_ := Aside0.mk (below_step (by repeat (first | (with_reducible first | exact HB.out | apply below_alloc | apply pw_below_drewN | apply below_drew1) | exact HB.out)) hb); clear HO201; clear HB; have HO201 := n0_; have HO205 := n1_; have HB := n2_; clear n0_ n1_ n2_; (try clear hb); (try clear hb2); (try clear hk); (try clear hi); (try clear ho0)) | ((with_reducible refine gate_callee (f := 21) rfl ?_); refine goesL_ (some 72) rfl rfl Tryd.func21 (by kernel_rfl) rfl #[] rfl (by (try simp only [List.map_toArray, List.map_cons, List.map_nil]); first | done | rfl | (simp only [List.length_drop, List.length_take]; rfl)) ?_; (with_reducible refine (cachepotlaw25_alive.calls kj14  true _ A51.out (by first | exact hT | (refine Tabs.below hT ?_; (repeat (first | (with_reducible first | exact HB.out | exact Below.refl _ _ | apply below_alloc | apply pw_below_drewN | apply below_drew1) | exact HB.out))))).mono ?_); rintro e w62 ⟨rfl, hb⟩; refine ⟨_, rfl, ?_⟩; have n0_ := Aside0.mk (Kd.R_below (by (with_reducible repeat (first | apply Kd.R_alloc | apply Kd.R_drewN | apply Kd.R_drew)); exact HO201.out) hb); have n1_ := Aside0.mk (Kd.R_below (by (with_reducible repeat (first | apply Kd.R_alloc | apply Kd.R_drewN | apply Kd.R_drew)); exact HO205.out) hb); have n2_ := Aside0.mk (below_step (by repeat (first | (with_reducible first | exact HB.out | apply below_alloc | apply pw_below_drewN | apply below_drew1) | exact HB.out)) hb); clear HO201; clear HO205; clear HB; have HO201 := n0_; have HO205 := n1_; have HB := n2_; clear n0_ n1_ n2_; (try clear hb); (try clear hb2); (try clear hk); (try clear hi)))
            go_ret
            exact ⟨by first | rfl | (simp [errW_none, errW_some] <;> rfl) | (simp [*, errW_none, errW_some] <;> rfl), by repeat (first | (with_reducible first | exact HB.out | apply below_alloc | apply pw_below_drewN | apply below_drew1) | exact HB.out)⟩
        · replace c52 := Bool.eq_false_iff.mpr c52
          subst c52
          have H1 : (some false) = some r := by rw [if_neg (show ¬ (false = true) by decide)] at H; exact H
          clear H
          have H := H1
          clear H1
          obtain rfl := Option.some.inj H
          go_wp2_with (first | ((with_reducible refine gate_callee (f := 19) rfl ?_); refine goesL_ (some 64) rfl rfl Tryd.func19 (by kernel_rfl) rfl #[.string x9_14] rfl (by (try simp only [List.map_toArray, List.map_cons, List.map_nil]); first | done | rfl | (simp only [List.length_drop, List.length_take]; rfl)) ?_; (with_reducible refine (word_Split.calls kj14 x9_14 t198 t199 _ A49.out (by first | exact hT | (refine Tabs.below hT ?_; (repeat (first | (with_reducible first | exact HB.out | exact Below.refl _ _ | apply below_alloc | apply pw_below_drewN | apply below_drew1) | exact HB.out))))).mono ?_); rintro e w63 ⟨v200, rfl, ho0, hb⟩; refine ⟨_, rfl, ?_⟩; have n0_ := Aside0.mk (Kd.R_lower ho0 (below_size (by repeat (first | (with_reducible first | exact HB.out | apply below_alloc | apply pw_below_drewN | apply below_drew1) | exact HB.out)))); have n1_ := Aside0.mk (below_step (by repeat (first | (with_reducible first | exact HB.out | apply below_alloc | apply pw_below_drewN | apply below_drew1) | exact HB.out)) hb); clear HB; have HO201 := n0_; have HB := n1_; clear n0_ n1_; (try clear hb); (try clear hb2); (try clear hk); (try clear hi); (try clear ho0)) | ((with_reducible refine gate_callee (f := 20) rfl ?_); refine goesL_ (some 69) rfl rfl Tryd.func20 (by kernel_rfl) rfl #[.string x9_14] rfl (by (try simp only [List.map_toArray, List.map_cons, List.map_nil]); first | done | rfl | (simp only [List.length_drop, List.length_take]; rfl)) ?_; (with_reducible refine (cachepotref3_Split.calls kj14 x9_14 t202 t203 _ A50.out).mono ?_); rintro e w64 ⟨v204, rfl, ho0, hb⟩; refine ⟨_, rfl, ?_⟩; have n0_ := Aside0.mk (Kd.R_elder' (by (with_reducible repeat (first | apply Kd.R_alloc | apply Kd.R_drewN | apply Kd.R_drew)); exact HO201.out) (Kd.R_base ho0) hb); have n1_ := Aside0.mk (Kd.R_lower (Kd.R_new' ho0 (Kd.R_lt (by (with_reducible repeat (first | apply Kd.R_alloc | apply Kd.R_drewN | apply Kd.R_drew)); exact HO201.out))) (below_size (by repeat (first | (with_reducible first | exact HB.out | apply below_alloc | apply pw_below_drewN | apply below_drew1) | exact HB.out)))); have n2_ := Aside0.mk (below_step (by repeat (first | (with_reducible first | exact HB.out | apply below_alloc | apply pw_below_drewN | apply below_drew1) | exact HB.out)) hb); clear HO201; clear HB; have HO201 := n0_; have HO205 := n1_; have HB := n2_; clear n0_ n1_ n2_; (try clear hb); (try clear hb2); (try clear hk); (try clear hi); (try clear ho0)) | ((with_reducible refine gate_callee (f := 21) rfl ?_); refine goesL_ (some 72) rfl rfl Tryd.func21 (by kernel_rfl) rfl #[] rfl (by (try simp only [List.map_toArray, List.map_cons, List.map_nil]); first | done | rfl | (simp only [List.length_drop, List.length_take]; rfl)) ?_; (with_reducible refine (cachepotlaw25_alive.calls kj14  false _ A51.out (by first | exact hT | (refine Tabs.below hT ?_; (repeat (first | (with_reducible first | exact HB.out | exact Below.refl _ _ | apply below_alloc | apply pw_below_drewN | apply below_drew1) | exact HB.out))))).mono ?_); rintro e w65 ⟨rfl, hb⟩; refine ⟨_, rfl, ?_⟩; have n0_ := Aside0.mk (Kd.R_below (by (with_reducible repeat (first | apply Kd.R_alloc | apply Kd.R_drewN | apply Kd.R_drew)); exact HO201.out) hb); have n1_ := Aside0.mk (Kd.R_below (by (with_reducible repeat (first | apply Kd.R_alloc | apply Kd.R_drewN | apply Kd.R_drew)); exact HO205.out) hb); have n2_ := Aside0.mk (below_step (by repeat (first | (with_reducible first | exact HB.out | apply below_alloc | apply pw_below_drewN | apply below_drew1) | exact HB.out)) hb); clear HO201; clear HO205; clear HB; have HO201 := n0_; have HO205 := n1_; have HB := n2_; clear n0_ n1_ n2_; (try clear hb); (try clear hb2); (try clear hk); (try clear hi)))
          go_ret
          exact ⟨by first | rfl | (simp [errW_none, errW_some] <;> rfl) | (simp [*, errW_none, errW_some] <;> rfl), by repeat (first | (with_reducible first | exact HB.out | apply below_alloc | apply pw_below_drewN | apply below_drew1) | exact HB.out)⟩

end Go.Proofs.YtfaelejeihmgcaaDoor.Wd
