/-
  Texts of mine, and texts that print.sh and pp.py wrote, merged and cut to what is used: Wd1, Bld, SpecW, HandB, HandC, Wd2, HandSe, St2
-/
import Derived.Test.YtfaelejeihmgcaaDoorProg
import Derived.Below
import Derived.Shelf.Unicode.DecodeSlow
import Derived.Lib.ItoaMem
import Derived.Lib.LaidTab
import Derived.Test.YtfaelejeihmgcaaDoorCards
import Derived.Test.YtfaelejeihmgcaaDoorTie
import Derived.Lib.LaidU8T
import Derived.PinnedBridge
import Derived.LaidMore
import Derived.Lay
import Derived.ProofKit
import Derived.OpenShut
import Derived.SevenTiedAt
import Derived.Stop.Joined
import Derived.Deep.DeepHandedRow
import Derived.Deep.Draws
import Derived.Deep.AppendLies
import Derived.Maps.AppendAt
import Derived.OwnWalk
import Derived.Laws.BytesArg
import Derived.Laws.MakeOwn
import Derived.Laws.OwnMore
import Derived.Deep.OwnRows
import Derived.Tactics
import Derived.Lib.ConvBytes
import Derived.Laws.Slices
import Derived.WalkKit
import Derived.KernelRfl
import Derived.RowKit3
import Derived.Deep.LoopGhost
import Derived.Deep.QuietTactic
import Derived.BigQuiet
import Derived.WideLaws
import Derived.Deep.DeepCutAuto
import Derived.Deep.CutBlock
import Derived.Deep.RegionHeld3
import Derived.Laws.Rows
import Derived.Lib.AppendStr
import Derived.ArgAppend
import Derived.Laws.IdiomCopy
import Derived.RowKit
import Derived.Test.YtfaelejeihmgcaaDoorRows
import Derived.ChangeArms
import Derived.DataReads
import Derived.DataElems
import Derived.Shelf.Strings.Builder1
import Derived.Shelf.Strings.Builder2
import Derived.Shelf.Strings.OnBuilder
import Derived.Shelf.Strings.BuilderF
import Derived.Shelf.Strings.BuilderK
import Derived.Shelf.Strings.Builder2Cap
import Derived.Shelf.Strconv.Atoi
import Derived.Shelf.Strconv.Itoa0
import Derived.Shelf.Strconv.Itoa1
import Derived.Shelf.LaysM
import Derived.Shelf.Strconv.Itoa2
import Derived.Shelf.Strconv.Itoa3
import Derived.Shelf.Strconv.AtoiErrFast
import Derived.Shelf.Strconv.ParseIntEmpty
import Derived.Shelf.Strconv.AtoiFail
import Derived.Shelf.Strconv.Clone
import Derived.Shelf.Strconv.SyntaxError
import Derived.Shelf.LaysC
import Derived.Shelf.Strconv.ToError
import Derived.Shelf.Strconv.Lower
import Derived.Shelf.Strconv.ParseUint10
import Derived.Shelf.Strconv.ParseUint10Empty
import Derived.Shelf.Strconv.ParseUint10Any
import Derived.Shelf.Strconv.ParseInt10
import Derived.Shelf.Strconv.AtoiLong
import Derived.Shelf.Strconv.AtoiInnerAll
import Derived.Shelf.Strconv.RangeError
import Derived.Shelf.Strconv.ToErrorRange
import Derived.Shelf.Strconv.AtoiAll
import Derived.Shelf.Strconv.ErrVarAll
import Derived.Shelf.Strconv.ParseUintEmpty
import Derived.Shelf.Strconv.ParseUint10b64
import Derived.Shelf.Strconv.ParseUint10b32
import Derived.Shelf.Strconv.ParseUint10b16
import Derived.Shelf.Strconv.ParseUint10b8
import Derived.Shelf.Strings.Prefix
import Derived.Shelf.Unicode.Decode
import Derived.Shelf.Unicode.DecodeAny
import Derived.Lib.AppendIntMem
import Derived.FnData
import Derived.Outline
import Derived.Tactics2
import Derived.OrdersHeld
import Derived.Laws.BitsLemmas
import Derived.Laws.StructEq
import Derived.Lib.AtoiTie
import Derived.Lib.Strings
import Derived.Lib.Slices
import Derived.Lib.Walk
import Derived.Lib.Builder
import Derived.Lib.UnsafeStr
import Derived.Laws.Externs
import Derived.Lib.DecodeNEq
import Derived.Lib.OthersKept
import Derived.Lib.Hide
import Derived.BigCall
import Derived.StillTailTactics
import Derived.BigRegion
import Derived.RegionTactic
import Derived.IntWalk
import Derived.WalkSpells
import Derived.Laws.Pointers
import Derived.Deep.RegionWith
import Derived.Test.YtfaelejeihmgcaaDoorMv0

section
namespace Go.Proofs.YtfaelejeihmgcaaDoor.Wd
open Go.RowKit Go.Proofs.YtfaelejeihmgcaaDoorW.PrintWords Go.Proofs.YtfaelejeihmgcaaDoorW.PrintLast Go.Proofs.YtfaelejeihmgcaaDoorW.PrintMore
attribute [local go_sem] max2_int min2_int max_two min_two max_three min_three max_four min_four   -- for this text's walks alone
set_option linter.unusedVariables false
set_option linter.unusedSimpArgs false
def word_digit.j0 : Nat → Int → Bool → Option (Int × Bool)
  | 0, _, _ => none
  | k + 1, x0, x4 => if x4 = true then (some ((x0 - 48) % 256, true)) else (if x0 ≥ 97 then (if x0 ≤ 102 then (some ((((x0 - 97) % 256) + 10) % 256, true)) else (some (0, false))) else (some (0, false)))
def word_digit.f (k : Nat) (a0 : Int) : Option (Int × Bool) := if a0 ≥ 48 then (word_digit.j0 k a0 (decide (a0 ≤ 57))) else (word_digit.j0 k a0 false)
set_option maxHeartbeats 8000000 in
set_option maxRecDepth 100000 in
theorem word_digit.calls (k : Nat) (a0 : Int) (r1 : Int) (r2 : Bool) (w : World) (h : word_digit.f k a0 = some (r1, r2)) :
    Calls Tryd.prog 124 #[.int .u8 a0] w fun e w' => e = .returned (.tuple #[.int .u8 r1, .bool r2]) ∧ Drawn0 w w' := by
  have H : (if a0 ≥ 48 then (word_digit.j0 k a0 (decide (a0 ≤ 57))) else (word_digit.j0 k a0 false)) = some (r1, r2) := h
  clear h
  have HC2 := Aside0.mk H
  clear H
  go_enter Tryd.func124, Tryd.ntmps124
  go_upto_region 1 with (fail)
  go_cut [4] (fun v4 wc => ∃ (kq : Nat) (x4_1 : Bool), v4 = .bool x4_1 ∧ Aside0 (word_digit.j0 kq a0 x4_1 = some (r1, r2)) ∧ Aside0 (kq ≤ k) ∧ Drawn0 w wc)
  case first =>
    have H := HC2.out
    clear HC2
    by_cases c3 : a0 ≥ 48
    · rw [if_pos c3] at H
      have c3b0 : decide (48 ≤ a0) = true := decide_eq_true c3
      clear c3
      (first | rw [c3b0] | (simp only [i64_w, i32_w]; rw [c3b0]) | skip)
      have H' := Aside0.mk H
      clear H
      go_wp2
      go_meet
      case rel => exact ⟨_, (decide (a0 ≤ 57)), (by first | rfl | (simp; done) | (simp [*]; done)), H', ⟨by first | omega | exact Nat.le_refl _⟩, by repeat (first | exact Drawn0.refl _ | apply Drawn0.step)⟩
    · rw [if_neg c3] at H
      have c3b0 : decide (48 ≤ a0) = false := decide_eq_false c3
      clear c3
      (first | rw [c3b0] | (simp only [i64_w, i32_w]; rw [c3b0]) | skip)
      have H' := Aside0.mk H
      clear H
      go_wp2
      go_meet
      case rel => exact ⟨_, (false), (by first | rfl | (simp; done) | (simp [*]; done)), H', ⟨by first | omega | exact Nat.le_refl _⟩, by repeat (first | exact Drawn0.refl _ | apply Drawn0.step)⟩
  case rest =>
    clear HC2
    try clear c1
    try clear p2
    try clear c3
    try clear c3b0
    obtain ⟨kq, x4_1, rfl, HA, HJ1, ⟨mc1, rfl⟩⟩ := hcut
    cases kq with
    | zero => exact absurd HA.out (by simp [word_digit.j0])
    | succ kj1 =>
      have H := HA.out
      clear HA
      simp only [word_digit.j0] at H
      by_cases c4 : x4_1 = true
      · subst c4
        have H1 : (some ((a0 - 48) % 256, true)) = some (r1, r2) := by rw [if_pos rfl] at H; exact H
        clear H
        have H := H1
        clear H1
        simp only [Option.some.injEq, Prod.mk.injEq] at H
        obtain ⟨rfl, rfl⟩ := H
        go_wp2
        go_ret2
        exact ⟨by first | rfl | (simp; done) | (simp [*]; done), by repeat (first | exact Drawn0.refl _ | apply Drawn0.step)⟩
      · replace c4 := Bool.eq_false_iff.mpr c4
        subst c4
        have H1 : (if a0 ≥ 97 then (if a0 ≤ 102 then (some ((((a0 - 97) % 256) + 10) % 256, true)) else (some (0, false))) else (some (0, false))) = some (r1, r2) := by rw [if_neg (show ¬ (false = true) by decide)] at H; exact H
        clear H
        have H := H1
        clear H1
        by_cases c5 : a0 ≥ 97
        · rw [if_pos c5] at H
          have c5b0 : decide (97 ≤ a0) = true := decide_eq_true c5
          clear c5
          by_cases c6 : a0 ≤ 102
          · rw [if_pos c6] at H
            have c6b0 : decide (a0 ≤ 102) = true := decide_eq_true c6
            clear c6
            simp only [Option.some.injEq, Prod.mk.injEq] at H
            obtain ⟨rfl, rfl⟩ := H
            go_wp2
            go_ret2
            exact ⟨by first | rfl | (simp; done) | (simp [*]; done), by repeat (first | exact Drawn0.refl _ | apply Drawn0.step)⟩
          · rw [if_neg c6] at H
            have c6b0 : decide (a0 ≤ 102) = false := decide_eq_false c6
            clear c6
            simp only [Option.some.injEq, Prod.mk.injEq] at H
            obtain ⟨rfl, rfl⟩ := H
            go_wp2
            go_ret2
            exact ⟨by first | rfl | (simp; done) | (simp [*]; done), by repeat (first | exact Drawn0.refl _ | apply Drawn0.step)⟩
        · rw [if_neg c5] at H
          have c5b0 : decide (97 ≤ a0) = false := decide_eq_false c5
          clear c5
          simp only [Option.some.injEq, Prod.mk.injEq] at H
          obtain ⟨rfl, rfl⟩ := H
          go_wp2
          go_ret2
          exact ⟨by first | rfl | (simp; done) | (simp [*]; done), by repeat (first | exact Drawn0.refl _ | apply Drawn0.step)⟩
def word_escaped.j0 : Nat → ByteArray → Bool → Option (Int × Int × Bool)
  | 0, _, _ => none
  | k + 1, x0, x20 => if x20 = true then (if 0 < (x0.size : Int) then (some (bt x0 0, 1, true)) else (none)) else (if (x0.size : Int) < 2 then (some (0, 0, false)) else (if 0 < (x0.size : Int) then ((word_digit.f k (bt x0 0)).bind fun bt101 => (if 1 < (x0.size : Int) then ((word_digit.f k (bt x0 1)).bind fun bt103 => (if bt101.2 = true then (some (Go.bits .or .u8 ((bt101.1 * 16) % 256) bt103.1, 2, bt103.2)) else (some (Go.bits .or .u8 ((bt101.1 * 16) % 256) bt103.1, 2, false)))) else (none))) else (none)))
def word_escaped.f (k : Nat) (a0 : ByteArray) : Option (Int × Int × Bool) := if a0.toList = ([] : List UInt8) then (word_escaped.j0 k a0 false) else (if 0 < (a0.size : Int) then (if (bt a0 0) = 34 then (word_escaped.j0 k a0 true) else (word_escaped.j0 k a0 ((bt a0 0) == 92))) else (none))
set_option maxHeartbeats 8000000 in
set_option maxRecDepth 100000 in
theorem word_escaped.calls (k : Nat) (a0 : ByteArray) (r1 : Int) (r2 : Int) (r3 : Bool) (w : World) (h : word_escaped.f k a0 = some (r1, r2, r3)) :
    Calls Tryd.prog 115 #[.string a0] w fun e w' => e = .returned (.tuple #[.int .u8 r1, .int .i64 r2, .bool r3]) ∧ Drawn0 w w' := by
  have H : (if a0.toList = ([] : List UInt8) then (word_escaped.j0 k a0 false) else (if 0 < (a0.size : Int) then (if (bt a0 0) = 34 then (word_escaped.j0 k a0 true) else (word_escaped.j0 k a0 ((bt a0 0) == 92))) else (none))) = some (r1, r2, r3) := h
  clear h
  have HC2 := Aside0.mk H
  clear H
  go_enter Tryd.func115, Tryd.ntmps115
  go_upto_region 1 with (fail)
  go_cut [20] (fun v20 wc => ∃ (kq : Nat) (x20_1 : Bool), v20 = .bool x20_1 ∧ Aside0 (word_escaped.j0 kq a0 x20_1 = some (r1, r2, r3)) ∧ Aside0 (kq ≤ k) ∧ Drawn0 w wc)
  case first =>
    have H := HC2.out
    clear HC2
    by_cases c3 : a0.toList = ([] : List UInt8)
    · rw [if_pos c3] at H
      have c3b0 : (a0.toList == ([] : List UInt8)) = true := beq_iff_eq.mpr c3
      have c3b1 : (a0.toList != ([] : List UInt8)) = false := bne_eq_false_iff_eq.mpr c3
      clear c3
      (first | rw [c3b0] | (simp only [i64_w, i32_w]; rw [c3b0]) | skip)
      have H' := Aside0.mk H
      clear H
      go_wp2
      go_meet
      case rel => exact ⟨_, (false), (by first | rfl | (simp; done) | (simp [*]; done)), H', ⟨by first | omega | exact Nat.le_refl _⟩, by repeat (first | exact Drawn0.refl _ | apply Drawn0.step)⟩
    · rw [if_neg c3] at H
      have c3b0 : (a0.toList == ([] : List UInt8)) = false := beq_eq_false_iff_ne.mpr c3
      have c3b1 : (a0.toList != ([] : List UInt8)) = true := bne_iff_ne.mpr c3
      (first | rw [c3b0] | (simp only [i64_w, i32_w]; rw [c3b0]) | skip)
      by_cases c4 : 0 < (a0.size : Int)
      · rw [if_pos c4] at H
        have c4b0 : decide (0 < (a0.size : Int)) = true := decide_eq_true c4
        have c4b1 : decide (0 < a0.size) = true := decide_eq_true (by omega)
        clear c4
        by_cases c6 : (bt a0 0) = 34
        · rw [if_pos c6] at H
          have c6b0 : ((bt a0 0) == 34) = true := beq_iff_eq.mpr c6
          have c6b1 : ((bt a0 0) != 34) = false := bne_eq_false_iff_eq.mpr c6
          clear c6
          have H' := Aside0.mk H
          clear H
          have p5 : 0 ≤ (0 : Int) := (by omega)
          have q5 : 0 < a0.size := (by have : (0 : Int) < (a0.size : Int) := of_decide_eq_true (by first | (with_reducible assumption) | assumption); omega)
          have hx5 : ∀ h : 0 < a0.size, ((a0[0]'h).toNat : Int) = bt a0 0 := bt_at a0 0
          clear p5
          have qi5 : (0 < (a0.size : Int)) = True := eq_true (of_decide_eq_true (by first | (with_reducible assumption) | assumption))
          replace q5 := eq_true q5
          go_wp2
          go_meet
          case rel => exact ⟨_, (true), (by first | rfl | (simp; done) | (simp [*]; done)), H', ⟨by first | omega | exact Nat.le_refl _⟩, by repeat (first | exact Drawn0.refl _ | apply Drawn0.step)⟩
        · rw [if_neg c6] at H
          have c6b0 : ((bt a0 0) == 34) = false := beq_eq_false_iff_ne.mpr c6
          have c6b1 : ((bt a0 0) != 34) = true := bne_iff_ne.mpr c6
          have H' := Aside0.mk H
          clear H
          have p5 : 0 ≤ (0 : Int) := (by omega)
          have q5 : 0 < a0.size := (by have : (0 : Int) < (a0.size : Int) := of_decide_eq_true (by first | (with_reducible assumption) | assumption); omega)
          have hx5 : ∀ h : 0 < a0.size, ((a0[0]'h).toNat : Int) = bt a0 0 := bt_at a0 0
          clear p5
          have qi5 : (0 < (a0.size : Int)) = True := eq_true (of_decide_eq_true (by first | (with_reducible assumption) | assumption))
          replace q5 := eq_true q5
          have p7 : 0 ≤ (0 : Int) := (by omega)
          have q7 : 0 < a0.size := (by have : (0 : Int) < (a0.size : Int) := of_decide_eq_true (by first | (with_reducible assumption) | assumption); omega)
          have hx7 : ∀ h : 0 < a0.size, ((a0[0]'h).toNat : Int) = bt a0 0 := bt_at a0 0
          clear p7
          have qi7 : (0 < (a0.size : Int)) = True := eq_true (of_decide_eq_true (by first | (with_reducible assumption) | assumption))
          replace q7 := eq_true q7
          go_wp2
          go_meet
          case rel => exact ⟨_, (((bt a0 0) == 92)), (by first | rfl | (simp; done) | (simp [*]; done)), H', ⟨by first | omega | exact Nat.le_refl _⟩, by repeat (first | exact Drawn0.refl _ | apply Drawn0.step)⟩
      · rw [if_neg c4] at H
        exact absurd H (by simp)
  case rest =>
    clear HC2
    try clear c1
    try clear p2
    try clear c3
    try clear c3b0
    try clear c3b1
    try clear c4
    try clear c4b0
    try clear c4b1
    try clear p5
    try clear q5
    try clear hx5
    try clear qi5
    try clear c6
    try clear c6b0
    try clear c6b1
    try clear p7
    try clear q7
    try clear hx7
    try clear qi7
    try clear p5
    try clear p7
    try clear q5
    try clear q7
    obtain ⟨kq, x20_1, rfl, HA, HJ1, ⟨mc1, rfl⟩⟩ := hcut
    cases kq with
    | zero => exact absurd HA.out (by simp [word_escaped.j0])
    | succ kj1 =>
      have H := HA.out
      clear HA
      simp only [word_escaped.j0] at H
      by_cases c8 : x20_1 = true
      · subst c8
        have H1 : (if 0 < (a0.size : Int) then (some (bt a0 0, 1, true)) else (none)) = some (r1, r2, r3) := by rw [if_pos rfl] at H; exact H
        clear H
        have H := H1
        clear H1
        by_cases c9 : 0 < (a0.size : Int)
        · rw [if_pos c9] at H
          have c9b0 : decide (0 < (a0.size : Int)) = true := decide_eq_true c9
          have c9b1 : decide (0 < a0.size) = true := decide_eq_true (by omega)
          clear c9
          simp only [Option.some.injEq, Prod.mk.injEq] at H
          obtain ⟨rfl, rfl, rfl⟩ := H
          have p10 : 0 ≤ (0 : Int) := (by omega)
          have q10 : 0 < a0.size := (by have : (0 : Int) < (a0.size : Int) := of_decide_eq_true (by first | (with_reducible assumption) | assumption); omega)
          have hx10 : ∀ h : 0 < a0.size, ((a0[0]'h).toNat : Int) = bt a0 0 := bt_at a0 0
          clear p10
          have qi10 : (0 < (a0.size : Int)) = True := eq_true (of_decide_eq_true (by first | (with_reducible assumption) | assumption))
          replace q10 := eq_true q10
          go_wp2
          go_ret3
          exact ⟨by first | rfl | (simp; done) | (simp [*]; done), by repeat (first | exact Drawn0.refl _ | apply Drawn0.step)⟩
        · rw [if_neg c9] at H
          exact absurd H (by simp)
      · replace c8 := Bool.eq_false_iff.mpr c8
        subst c8
        have H1 : (if (a0.size : Int) < 2 then (some (0, 0, false)) else (if 0 < (a0.size : Int) then ((word_digit.f kj1 (bt a0 0)).bind fun bt101 => (if 1 < (a0.size : Int) then ((word_digit.f kj1 (bt a0 1)).bind fun bt103 => (if bt101.2 = true then (some (Go.bits .or .u8 ((bt101.1 * 16) % 256) bt103.1, 2, bt103.2)) else (some (Go.bits .or .u8 ((bt101.1 * 16) % 256) bt103.1, 2, false)))) else (none))) else (none))) = some (r1, r2, r3) := by rw [if_neg (show ¬ (false = true) by decide)] at H; exact H
        clear H
        have H := H1
        clear H1
        by_cases c11 : (a0.size : Int) < 2
        · rw [if_pos c11] at H
          have c11b0 : decide ((a0.size : Int) < 2) = true := decide_eq_true c11
          have c11b1 : decide (a0.size < 2) = true := decide_eq_true (by omega)
          clear c11
          simp only [Option.some.injEq, Prod.mk.injEq] at H
          obtain ⟨rfl, rfl, rfl⟩ := H
          go_wp2
          go_ret3
          exact ⟨by first | rfl | (simp; done) | (simp [*]; done), by repeat (first | exact Drawn0.refl _ | apply Drawn0.step)⟩
        · rw [if_neg c11] at H
          have c11b0 : decide ((a0.size : Int) < 2) = false := decide_eq_false c11
          have c11b1 : decide (a0.size < 2) = false := decide_eq_false (by omega)
          clear c11
          by_cases c12 : 0 < (a0.size : Int)
          · rw [if_pos c12] at H
            have c12b0 : decide (0 < (a0.size : Int)) = true := decide_eq_true c12
            have c12b1 : decide (0 < a0.size) = true := decide_eq_true (by omega)
            clear c12
            replace H := Option.bind_eq_some_iff.mp H
            obtain ⟨⟨t101, t102⟩, A140, H⟩ := H
            replace H : (if 1 < (a0.size : Int) then ((word_digit.f kj1 (bt a0 1)).bind fun bt103 => (if t102 = true then (some (Go.bits .or .u8 ((t101 * 16) % 256) bt103.1, 2, bt103.2)) else (some (Go.bits .or .u8 ((t101 * 16) % 256) bt103.1, 2, false)))) else (none)) = some (r1, r2, r3) := H
            have A14 := Aside0.mk A140
            clear A140
            by_cases c15 : 1 < (a0.size : Int)
            · rw [if_pos c15] at H
              have c15b0 : decide (1 < (a0.size : Int)) = true := decide_eq_true c15
              have c15b1 : decide (1 < a0.size) = true := decide_eq_true (by omega)
              clear c15
              replace H := Option.bind_eq_some_iff.mp H
              obtain ⟨⟨t103, t104⟩, A170, H⟩ := H
              replace H : (if t102 = true then (some (Go.bits .or .u8 ((t101 * 16) % 256) t103, 2, t104)) else (some (Go.bits .or .u8 ((t101 * 16) % 256) t103, 2, false))) = some (r1, r2, r3) := H
              have A17 := Aside0.mk A170
              clear A170
              by_cases c18 : t102 = true
              · subst c18
                have H1 : (some (Go.bits .or .u8 ((t101 * 16) % 256) t103, 2, t104)) = some (r1, r2, r3) := by rw [if_pos rfl] at H; exact H
                clear H
                have H := H1
                clear H1
                simp only [Option.some.injEq, Prod.mk.injEq] at H
                obtain ⟨rfl, rfl, rfl⟩ := H
                have p13 : 0 ≤ (0 : Int) := (by omega)
                have q13 : 0 < a0.size := (by have : (0 : Int) < (a0.size : Int) := of_decide_eq_true (by first | (with_reducible assumption) | assumption); omega)
                have hx13 : ∀ h : 0 < a0.size, ((a0[0]'h).toNat : Int) = bt a0 0 := bt_at a0 0
                clear p13
                have qi13 : (0 < (a0.size : Int)) = True := eq_true (of_decide_eq_true (by first | (with_reducible assumption) | assumption))
                replace q13 := eq_true q13
                go_wp2_with (first | ((with_reducible refine gate_callee (f := 124) rfl ?_); refine goesL_ (some 29) rfl rfl Tryd.func124 (by kernel_rfl) rfl #[.int .u8 (bt a0 0)] rfl (by (try simp only [List.map_toArray, List.map_cons, List.map_nil]); first | done | rfl | (simp only [List.length_drop, List.length_take]; rfl)) ?_; (with_reducible refine (word_digit.calls kj1 (bt a0 0) t101 true _ A14.out).mono ?_); rintro e w' ⟨rfl, ⟨nd, rfl⟩⟩; refine ⟨_, rfl, ?_⟩; have p16 : 0 ≤ (1 : Int) := (by omega); have q16 : 1 < a0.size := (by have : (1 : Int) < (a0.size : Int) := of_decide_eq_true (by first | (with_reducible assumption) | assumption); omega); have hx16 : ∀ h : 1 < a0.size, ((a0[1]'h).toNat : Int) = bt a0 1 := bt_at a0 1; clear p16; have qi16 : (1 < (a0.size : Int)) = True := eq_true (of_decide_eq_true (by first | (with_reducible assumption) | assumption)); replace q16 := eq_true q16) | ((with_reducible refine gate_callee (f := 124) rfl ?_); refine goesL_ (some 35) rfl rfl Tryd.func124 (by kernel_rfl) rfl #[.int .u8 (bt a0 1)] rfl (by (try simp only [List.map_toArray, List.map_cons, List.map_nil]); first | done | rfl | (simp only [List.length_drop, List.length_take]; rfl)) ?_; (with_reducible refine (word_digit.calls kj1 (bt a0 1) t103 t104 _ A17.out).mono ?_); rintro e w' ⟨rfl, ⟨nd, rfl⟩⟩; refine ⟨_, rfl, ?_⟩))
                go_ret3
                exact ⟨by first | rfl | (simp; done) | (simp [*]; done), by repeat (first | exact Drawn0.refl _ | apply Drawn0.step)⟩
              · replace c18 := Bool.eq_false_iff.mpr c18
                subst c18
                have H1 : (some (Go.bits .or .u8 ((t101 * 16) % 256) t103, 2, false)) = some (r1, r2, r3) := by rw [if_neg (show ¬ (false = true) by decide)] at H; exact H
                clear H
                have H := H1
                clear H1
                simp only [Option.some.injEq, Prod.mk.injEq] at H
                obtain ⟨rfl, rfl, rfl⟩ := H
                have p13 : 0 ≤ (0 : Int) := (by omega)
                have q13 : 0 < a0.size := (by have : (0 : Int) < (a0.size : Int) := of_decide_eq_true (by first | (with_reducible assumption) | assumption); omega)
                have hx13 : ∀ h : 0 < a0.size, ((a0[0]'h).toNat : Int) = bt a0 0 := bt_at a0 0
                clear p13
                have qi13 : (0 < (a0.size : Int)) = True := eq_true (of_decide_eq_true (by first | (with_reducible assumption) | assumption))
                replace q13 := eq_true q13
                go_wp2_with (first | ((with_reducible refine gate_callee (f := 124) rfl ?_); refine goesL_ (some 29) rfl rfl Tryd.func124 (by kernel_rfl) rfl #[.int .u8 (bt a0 0)] rfl (by (try simp only [List.map_toArray, List.map_cons, List.map_nil]); first | done | rfl | (simp only [List.length_drop, List.length_take]; rfl)) ?_; (with_reducible refine (word_digit.calls kj1 (bt a0 0) t101 false _ A14.out).mono ?_); rintro e w' ⟨rfl, ⟨nd, rfl⟩⟩; refine ⟨_, rfl, ?_⟩; have p16 : 0 ≤ (1 : Int) := (by omega); have q16 : 1 < a0.size := (by have : (1 : Int) < (a0.size : Int) := of_decide_eq_true (by first | (with_reducible assumption) | assumption); omega); have hx16 : ∀ h : 1 < a0.size, ((a0[1]'h).toNat : Int) = bt a0 1 := bt_at a0 1; clear p16; have qi16 : (1 < (a0.size : Int)) = True := eq_true (of_decide_eq_true (by first | (with_reducible assumption) | assumption)); replace q16 := eq_true q16) | ((with_reducible refine gate_callee (f := 124) rfl ?_); refine goesL_ (some 35) rfl rfl Tryd.func124 (by kernel_rfl) rfl #[.int .u8 (bt a0 1)] rfl (by (try simp only [List.map_toArray, List.map_cons, List.map_nil]); first | done | rfl | (simp only [List.length_drop, List.length_take]; rfl)) ?_; (with_reducible refine (word_digit.calls kj1 (bt a0 1) t103 t104 _ A17.out).mono ?_); rintro e w' ⟨rfl, ⟨nd, rfl⟩⟩; refine ⟨_, rfl, ?_⟩))
                go_ret3
                exact ⟨by first | rfl | (simp; done) | (simp [*]; done), by repeat (first | exact Drawn0.refl _ | apply Drawn0.step)⟩
            · rw [if_neg c15] at H
              exact absurd H (by simp)
          · rw [if_neg c12] at H
            exact absurd H (by simp)
def word_may.f (a0 : ByteArray) : Option (Bool × Int) := (utf8_DecodeRuneInString.f a0).bind fun bt105 => (if bt105.1 = 65533 then (if bt105.2 < 2 then (some (!true, bt105.2)) else (if bt105.1 = 34 then (some (!true, bt105.2)) else (if bt105.1 = 92 then (some (!true, bt105.2)) else (if bt105.1 < 33 then (some (!true, bt105.2)) else (if bt105.1 ≥ 127 then (some (!(decide (bt105.1 ≤ 160)), bt105.2)) else (some (!false, bt105.2))))))) else (if bt105.1 = 34 then (some (!true, bt105.2)) else (if bt105.1 = 92 then (some (!true, bt105.2)) else (if bt105.1 < 33 then (some (!true, bt105.2)) else (if bt105.1 ≥ 127 then (some (!(decide (bt105.1 ≤ 160)), bt105.2)) else (some (!false, bt105.2)))))))
set_option maxHeartbeats 8000000 in
set_option maxRecDepth 100000 in
theorem word_may.calls (a0 : ByteArray) (r1 : Bool) (r2 : Int) (w : World) (h : word_may.f a0 = some (r1, r2)) (hT : Tabs w) :
    Calls Tryd.prog 57 #[.string a0] w fun e w' => e = .returned (.tuple #[.bool r1, .int .i64 r2]) ∧ Below w.heap.size w w' := by
  have HB := Aside0.mk (Below.refl w.heap.size w)
  have H : ((utf8_DecodeRuneInString.f a0).bind fun bt105 => (if bt105.1 = 65533 then (if bt105.2 < 2 then (some (!true, bt105.2)) else (if bt105.1 = 34 then (some (!true, bt105.2)) else (if bt105.1 = 92 then (some (!true, bt105.2)) else (if bt105.1 < 33 then (some (!true, bt105.2)) else (if bt105.1 ≥ 127 then (some (!(decide (bt105.1 ≤ 160)), bt105.2)) else (some (!false, bt105.2))))))) else (if bt105.1 = 34 then (some (!true, bt105.2)) else (if bt105.1 = 92 then (some (!true, bt105.2)) else (if bt105.1 < 33 then (some (!true, bt105.2)) else (if bt105.1 ≥ 127 then (some (!(decide (bt105.1 ≤ 160)), bt105.2)) else (some (!false, bt105.2)))))))) = some (r1, r2) := h
  clear h
  replace H := Option.bind_eq_some_iff.mp H
  obtain ⟨⟨t105, t106⟩, A20, H⟩ := H
  replace H : (if t105 = 65533 then (if t106 < 2 then (some (!true, t106)) else (if t105 = 34 then (some (!true, t106)) else (if t105 = 92 then (some (!true, t106)) else (if t105 < 33 then (some (!true, t106)) else (if t105 ≥ 127 then (some (!(decide (t105 ≤ 160)), t106)) else (some (!false, t106))))))) else (if t105 = 34 then (some (!true, t106)) else (if t105 = 92 then (some (!true, t106)) else (if t105 < 33 then (some (!true, t106)) else (if t105 ≥ 127 then (some (!(decide (t105 ≤ 160)), t106)) else (some (!false, t106))))))) = some (r1, r2) := H
  have A2 := Aside0.mk A20
  clear A20
  by_cases c3 : t105 = 65533
  · rw [if_pos c3] at H
    have c3b0 : (t105 == 65533) = true := beq_iff_eq.mpr c3
    have c3b1 : (t105 != 65533) = false := bne_eq_false_iff_eq.mpr c3
    clear c3
    by_cases c4 : t106 < 2
    · rw [if_pos c4] at H
      have c4b0 : decide (t106 < 2) = true := decide_eq_true c4
      clear c4
      simp only [Option.some.injEq, Prod.mk.injEq] at H
      obtain ⟨rfl, rfl⟩ := H
      go_enter Tryd.func57, Tryd.ntmps57
      go_wp2_with (first | ((with_reducible refine gate_callee (f := 63) rfl ?_); refine goesL_ (some 9) rfl rfl Tryd.func63 (by kernel_rfl) rfl #[.string a0] rfl (by (try simp only [List.map_toArray, List.map_cons, List.map_nil]); first | done | rfl | (simp only [List.length_drop, List.length_take]; rfl)) ?_; (with_reducible refine (utf8_DecodeRuneInString.calls a0 t105 t106 _ A2.out (by first | exact hT | (refine Tabs.below hT ?_; (repeat (first | (with_reducible first | exact HB.out | exact Below.refl _ _ | apply below_alloc | apply pw_below_drewN | apply below_drew1) | exact HB.out))))).mono ?_); rintro e w5 ⟨rfl, hb⟩; refine ⟨_, rfl, ?_⟩; have n0_ := Aside0.mk (below_step (by repeat (first | (with_reducible first | exact HB.out | apply below_alloc | apply pw_below_drewN | apply below_drew1) | exact HB.out)) hb); clear HB; have HB := n0_; clear n0_; (try clear hb); (try clear hb2); (try clear hk); (try clear hi)))
      go_ret2
      exact ⟨by first | rfl | (simp [errW_none, errW_some] <;> rfl) | (simp [*, errW_none, errW_some] <;> rfl), by repeat (first | (with_reducible first | exact HB.out | apply below_alloc | apply pw_below_drewN | apply below_drew1) | exact HB.out)⟩
    · rw [if_neg c4] at H
      have c4b0 : decide (t106 < 2) = false := decide_eq_false c4
      clear c4
      by_cases c6 : t105 = 34
      · rw [if_pos c6] at H
        have c6b0 : (t105 == 34) = true := beq_iff_eq.mpr c6
        have c6b1 : (t105 != 34) = false := bne_eq_false_iff_eq.mpr c6
        clear c6
        simp only [Option.some.injEq, Prod.mk.injEq] at H
        obtain ⟨rfl, rfl⟩ := H
        go_enter Tryd.func57, Tryd.ntmps57
        go_wp2_with (first | ((with_reducible refine gate_callee (f := 63) rfl ?_); refine goesL_ (some 9) rfl rfl Tryd.func63 (by kernel_rfl) rfl #[.string a0] rfl (by (try simp only [List.map_toArray, List.map_cons, List.map_nil]); first | done | rfl | (simp only [List.length_drop, List.length_take]; rfl)) ?_; (with_reducible refine (utf8_DecodeRuneInString.calls a0 t105 t106 _ A2.out (by first | exact hT | (refine Tabs.below hT ?_; (repeat (first | (with_reducible first | exact HB.out | exact Below.refl _ _ | apply below_alloc | apply pw_below_drewN | apply below_drew1) | exact HB.out))))).mono ?_); rintro e w7 ⟨rfl, hb⟩; refine ⟨_, rfl, ?_⟩; have n0_ := Aside0.mk (below_step (by repeat (first | (with_reducible first | exact HB.out | apply below_alloc | apply pw_below_drewN | apply below_drew1) | exact HB.out)) hb); clear HB; have HB := n0_; clear n0_; (try clear hb); (try clear hb2); (try clear hk); (try clear hi)))
        go_ret2
        exact ⟨by first | rfl | (simp [errW_none, errW_some] <;> rfl) | (simp [*, errW_none, errW_some] <;> rfl), by repeat (first | (with_reducible first | exact HB.out | apply below_alloc | apply pw_below_drewN | apply below_drew1) | exact HB.out)⟩
      · rw [if_neg c6] at H
        have c6b0 : (t105 == 34) = false := beq_eq_false_iff_ne.mpr c6
        have c6b1 : (t105 != 34) = true := bne_iff_ne.mpr c6
        by_cases c8 : t105 = 92
        · rw [if_pos c8] at H
          have c8b0 : (t105 == 92) = true := beq_iff_eq.mpr c8
          have c8b1 : (t105 != 92) = false := bne_eq_false_iff_eq.mpr c8
          clear c8
          simp only [Option.some.injEq, Prod.mk.injEq] at H
          obtain ⟨rfl, rfl⟩ := H
          go_enter Tryd.func57, Tryd.ntmps57
          go_wp2_with (first | ((with_reducible refine gate_callee (f := 63) rfl ?_); refine goesL_ (some 9) rfl rfl Tryd.func63 (by kernel_rfl) rfl #[.string a0] rfl (by (try simp only [List.map_toArray, List.map_cons, List.map_nil]); first | done | rfl | (simp only [List.length_drop, List.length_take]; rfl)) ?_; (with_reducible refine (utf8_DecodeRuneInString.calls a0 t105 t106 _ A2.out (by first | exact hT | (refine Tabs.below hT ?_; (repeat (first | (with_reducible first | exact HB.out | exact Below.refl _ _ | apply below_alloc | apply pw_below_drewN | apply below_drew1) | exact HB.out))))).mono ?_); rintro e w9 ⟨rfl, hb⟩; refine ⟨_, rfl, ?_⟩; have n0_ := Aside0.mk (below_step (by repeat (first | (with_reducible first | exact HB.out | apply below_alloc | apply pw_below_drewN | apply below_drew1) | exact HB.out)) hb); clear HB; have HB := n0_; clear n0_; (try clear hb); (try clear hb2); (try clear hk); (try clear hi)))
          go_ret2
          exact ⟨by first | rfl | (simp [errW_none, errW_some] <;> rfl) | (simp [*, errW_none, errW_some] <;> rfl), by repeat (first | (with_reducible first | exact HB.out | apply below_alloc | apply pw_below_drewN | apply below_drew1) | exact HB.out)⟩
        · rw [if_neg c8] at H
          have c8b0 : (t105 == 92) = false := beq_eq_false_iff_ne.mpr c8
          have c8b1 : (t105 != 92) = true := bne_iff_ne.mpr c8
          by_cases c10 : t105 < 33
          · rw [if_pos c10] at H
            have c10b0 : decide (t105 < 33) = true := decide_eq_true c10
            clear c10
            simp only [Option.some.injEq, Prod.mk.injEq] at H
            obtain ⟨rfl, rfl⟩ := H
            go_enter Tryd.func57, Tryd.ntmps57
            go_wp2_with (first | ((with_reducible refine gate_callee (f := 63) rfl ?_); refine goesL_ (some 9) rfl rfl Tryd.func63 (by kernel_rfl) rfl #[.string a0] rfl (by (try simp only [List.map_toArray, List.map_cons, List.map_nil]); first | done | rfl | (simp only [List.length_drop, List.length_take]; rfl)) ?_; (with_reducible refine (utf8_DecodeRuneInString.calls a0 t105 t106 _ A2.out (by first | exact hT | (refine Tabs.below hT ?_; (repeat (first | (with_reducible first | exact HB.out | exact Below.refl _ _ | apply below_alloc | apply pw_below_drewN | apply below_drew1) | exact HB.out))))).mono ?_); rintro e w11 ⟨rfl, hb⟩; refine ⟨_, rfl, ?_⟩; have n0_ := Aside0.mk (below_step (by repeat (first | (with_reducible first | exact HB.out | apply below_alloc | apply pw_below_drewN | apply below_drew1) | exact HB.out)) hb); clear HB; have HB := n0_; clear n0_; (try clear hb); (try clear hb2); (try clear hk); (try clear hi)))
            go_ret2
            exact ⟨by first | rfl | (simp [errW_none, errW_some] <;> rfl) | (simp [*, errW_none, errW_some] <;> rfl), by repeat (first | (with_reducible first | exact HB.out | apply below_alloc | apply pw_below_drewN | apply below_drew1) | exact HB.out)⟩
          · rw [if_neg c10] at H
            have c10b0 : decide (t105 < 33) = false := decide_eq_false c10
            clear c10
            by_cases c12 : t105 ≥ 127
            · rw [if_pos c12] at H
              have c12b0 : decide (127 ≤ t105) = true := decide_eq_true c12
              clear c12
              simp only [Option.some.injEq, Prod.mk.injEq] at H
              obtain ⟨rfl, rfl⟩ := H
              go_enter Tryd.func57, Tryd.ntmps57
              go_wp2_with (first | ((with_reducible refine gate_callee (f := 63) rfl ?_); refine goesL_ (some 9) rfl rfl Tryd.func63 (by kernel_rfl) rfl #[.string a0] rfl (by (try simp only [List.map_toArray, List.map_cons, List.map_nil]); first | done | rfl | (simp only [List.length_drop, List.length_take]; rfl)) ?_; (with_reducible refine (utf8_DecodeRuneInString.calls a0 t105 t106 _ A2.out (by first | exact hT | (refine Tabs.below hT ?_; (repeat (first | (with_reducible first | exact HB.out | exact Below.refl _ _ | apply below_alloc | apply pw_below_drewN | apply below_drew1) | exact HB.out))))).mono ?_); rintro e w13 ⟨rfl, hb⟩; refine ⟨_, rfl, ?_⟩; have n0_ := Aside0.mk (below_step (by repeat (first | (with_reducible first | exact HB.out | apply below_alloc | apply pw_below_drewN | apply below_drew1) | exact HB.out)) hb); clear HB; have HB := n0_; clear n0_; (try clear hb); (try clear hb2); (try clear hk); (try clear hi)))
              go_ret2
              exact ⟨by first | rfl | (simp [errW_none, errW_some] <;> rfl) | (simp [*, errW_none, errW_some] <;> rfl), by repeat (first | (with_reducible first | exact HB.out | apply below_alloc | apply pw_below_drewN | apply below_drew1) | exact HB.out)⟩
            · rw [if_neg c12] at H
              have c12b0 : decide (127 ≤ t105) = false := decide_eq_false c12
              clear c12
              simp only [Option.some.injEq, Prod.mk.injEq] at H
              obtain ⟨rfl, rfl⟩ := H
              go_enter Tryd.func57, Tryd.ntmps57
              go_wp2_with (first | ((with_reducible refine gate_callee (f := 63) rfl ?_); refine goesL_ (some 9) rfl rfl Tryd.func63 (by kernel_rfl) rfl #[.string a0] rfl (by (try simp only [List.map_toArray, List.map_cons, List.map_nil]); first | done | rfl | (simp only [List.length_drop, List.length_take]; rfl)) ?_; (with_reducible refine (utf8_DecodeRuneInString.calls a0 t105 t106 _ A2.out (by first | exact hT | (refine Tabs.below hT ?_; (repeat (first | (with_reducible first | exact HB.out | exact Below.refl _ _ | apply below_alloc | apply pw_below_drewN | apply below_drew1) | exact HB.out))))).mono ?_); rintro e w14 ⟨rfl, hb⟩; refine ⟨_, rfl, ?_⟩; have n0_ := Aside0.mk (below_step (by repeat (first | (with_reducible first | exact HB.out | apply below_alloc | apply pw_below_drewN | apply below_drew1) | exact HB.out)) hb); clear HB; have HB := n0_; clear n0_; (try clear hb); (try clear hb2); (try clear hk); (try clear hi)))
              go_ret2
              exact ⟨by first | rfl | (simp [errW_none, errW_some] <;> rfl) | (simp [*, errW_none, errW_some] <;> rfl), by repeat (first | (with_reducible first | exact HB.out | apply below_alloc | apply pw_below_drewN | apply below_drew1) | exact HB.out)⟩
  · rw [if_neg c3] at H
    have c3b0 : (t105 == 65533) = false := beq_eq_false_iff_ne.mpr c3
    have c3b1 : (t105 != 65533) = true := bne_iff_ne.mpr c3
    by_cases c15 : t105 = 34
    · rw [if_pos c15] at H
      have c15b0 : (t105 == 34) = true := beq_iff_eq.mpr c15
      have c15b1 : (t105 != 34) = false := bne_eq_false_iff_eq.mpr c15
      clear c15
      simp only [Option.some.injEq, Prod.mk.injEq] at H
      obtain ⟨rfl, rfl⟩ := H
      go_enter Tryd.func57, Tryd.ntmps57
      go_wp2_with (first | ((with_reducible refine gate_callee (f := 63) rfl ?_); refine goesL_ (some 9) rfl rfl Tryd.func63 (by kernel_rfl) rfl #[.string a0] rfl (by (try simp only [List.map_toArray, List.map_cons, List.map_nil]); first | done | rfl | (simp only [List.length_drop, List.length_take]; rfl)) ?_; (with_reducible refine (utf8_DecodeRuneInString.calls a0 t105 t106 _ A2.out (by first | exact hT | (refine Tabs.below hT ?_; (repeat (first | (with_reducible first | exact HB.out | exact Below.refl _ _ | apply below_alloc | apply pw_below_drewN | apply below_drew1) | exact HB.out))))).mono ?_); rintro e w16 ⟨rfl, hb⟩; refine ⟨_, rfl, ?_⟩; have n0_ := Aside0.mk (below_step (by repeat (first | (with_reducible first | exact HB.out | apply below_alloc | apply pw_below_drewN | apply below_drew1) | exact HB.out)) hb); clear HB; have HB := n0_; clear n0_; (try clear hb); (try clear hb2); (try clear hk); (try clear hi)))
      go_ret2
      exact ⟨by first | rfl | (simp [errW_none, errW_some] <;> rfl) | (simp [*, errW_none, errW_some] <;> rfl), by repeat (first | (with_reducible first | exact HB.out | apply below_alloc | apply pw_below_drewN | apply below_drew1) | exact HB.out)⟩
    · rw [if_neg c15] at H
      have c15b0 : (t105 == 34) = false := beq_eq_false_iff_ne.mpr c15
      have c15b1 : (t105 != 34) = true := bne_iff_ne.mpr c15
      by_cases c17 : t105 = 92
      · rw [if_pos c17] at H
        have c17b0 : (t105 == 92) = true := beq_iff_eq.mpr c17
        have c17b1 : (t105 != 92) = false := bne_eq_false_iff_eq.mpr c17
        clear c17
        simp only [Option.some.injEq, Prod.mk.injEq] at H
        obtain ⟨rfl, rfl⟩ := H
        go_enter Tryd.func57, Tryd.ntmps57
        go_wp2_with (first | ((with_reducible refine gate_callee (f := 63) rfl ?_); refine goesL_ (some 9) rfl rfl Tryd.func63 (by kernel_rfl) rfl #[.string a0] rfl (by (try simp only [List.map_toArray, List.map_cons, List.map_nil]); first | done | rfl | (simp only [List.length_drop, List.length_take]; rfl)) ?_; (with_reducible refine (utf8_DecodeRuneInString.calls a0 t105 t106 _ A2.out (by first | exact hT | (refine Tabs.below hT ?_; (repeat (first | (with_reducible first | exact HB.out | exact Below.refl _ _ | apply below_alloc | apply pw_below_drewN | apply below_drew1) | exact HB.out))))).mono ?_); rintro e w18 ⟨rfl, hb⟩; refine ⟨_, rfl, ?_⟩; have n0_ := Aside0.mk (below_step (by repeat (first | (with_reducible first | exact HB.out | apply below_alloc | apply pw_below_drewN | apply below_drew1) | exact HB.out)) hb); clear HB; have HB := n0_; clear n0_; (try clear hb); (try clear hb2); (try clear hk); (try clear hi)))
        go_ret2
        exact ⟨by first | rfl | (simp [errW_none, errW_some] <;> rfl) | (simp [*, errW_none, errW_some] <;> rfl), by repeat (first | (with_reducible first | exact HB.out | apply below_alloc | apply pw_below_drewN | apply below_drew1) | exact HB.out)⟩
      · rw [if_neg c17] at H
        have c17b0 : (t105 == 92) = false := beq_eq_false_iff_ne.mpr c17
        have c17b1 : (t105 != 92) = true := bne_iff_ne.mpr c17
        by_cases c19 : t105 < 33
        · rw [if_pos c19] at H
          have c19b0 : decide (t105 < 33) = true := decide_eq_true c19
          clear c19
          simp only [Option.some.injEq, Prod.mk.injEq] at H
          obtain ⟨rfl, rfl⟩ := H
          go_enter Tryd.func57, Tryd.ntmps57
          go_wp2_with (first | ((with_reducible refine gate_callee (f := 63) rfl ?_); refine goesL_ (some 9) rfl rfl Tryd.func63 (by kernel_rfl) rfl #[.string a0] rfl (by (try simp only [List.map_toArray, List.map_cons, List.map_nil]); first | done | rfl | (simp only [List.length_drop, List.length_take]; rfl)) ?_; (with_reducible refine (utf8_DecodeRuneInString.calls a0 t105 t106 _ A2.out (by first | exact hT | (refine Tabs.below hT ?_; (repeat (first | (with_reducible first | exact HB.out | exact Below.refl _ _ | apply below_alloc | apply pw_below_drewN | apply below_drew1) | exact HB.out))))).mono ?_); rintro e w20 ⟨rfl, hb⟩; refine ⟨_, rfl, ?_⟩; have n0_ := Aside0.mk (below_step (by repeat (first | (with_reducible first | exact HB.out | apply below_alloc | apply pw_below_drewN | apply below_drew1) | exact HB.out)) hb); clear HB; have HB := n0_; clear n0_; (try clear hb); (try clear hb2); (try clear hk); (try clear hi)))
          go_ret2
          exact ⟨by first | rfl | (simp [errW_none, errW_some] <;> rfl) | (simp [*, errW_none, errW_some] <;> rfl), by repeat (first | (with_reducible first | exact HB.out | apply below_alloc | apply pw_below_drewN | apply below_drew1) | exact HB.out)⟩
        · rw [if_neg c19] at H
          have c19b0 : decide (t105 < 33) = false := decide_eq_false c19
          clear c19
          by_cases c21 : t105 ≥ 127
          · rw [if_pos c21] at H
            have c21b0 : decide (127 ≤ t105) = true := decide_eq_true c21
            clear c21
            simp only [Option.some.injEq, Prod.mk.injEq] at H
            obtain ⟨rfl, rfl⟩ := H
            go_enter Tryd.func57, Tryd.ntmps57
            go_wp2_with (first | ((with_reducible refine gate_callee (f := 63) rfl ?_); refine goesL_ (some 9) rfl rfl Tryd.func63 (by kernel_rfl) rfl #[.string a0] rfl (by (try simp only [List.map_toArray, List.map_cons, List.map_nil]); first | done | rfl | (simp only [List.length_drop, List.length_take]; rfl)) ?_; (with_reducible refine (utf8_DecodeRuneInString.calls a0 t105 t106 _ A2.out (by first | exact hT | (refine Tabs.below hT ?_; (repeat (first | (with_reducible first | exact HB.out | exact Below.refl _ _ | apply below_alloc | apply pw_below_drewN | apply below_drew1) | exact HB.out))))).mono ?_); rintro e w22 ⟨rfl, hb⟩; refine ⟨_, rfl, ?_⟩; have n0_ := Aside0.mk (below_step (by repeat (first | (with_reducible first | exact HB.out | apply below_alloc | apply pw_below_drewN | apply below_drew1) | exact HB.out)) hb); clear HB; have HB := n0_; clear n0_; (try clear hb); (try clear hb2); (try clear hk); (try clear hi)))
            go_ret2
            exact ⟨by first | rfl | (simp [errW_none, errW_some] <;> rfl) | (simp [*, errW_none, errW_some] <;> rfl), by repeat (first | (with_reducible first | exact HB.out | apply below_alloc | apply pw_below_drewN | apply below_drew1) | exact HB.out)⟩
          · rw [if_neg c21] at H
            have c21b0 : decide (127 ≤ t105) = false := decide_eq_false c21
            clear c21
            simp only [Option.some.injEq, Prod.mk.injEq] at H
            obtain ⟨rfl, rfl⟩ := H
            go_enter Tryd.func57, Tryd.ntmps57
            go_wp2_with (first | ((with_reducible refine gate_callee (f := 63) rfl ?_); refine goesL_ (some 9) rfl rfl Tryd.func63 (by kernel_rfl) rfl #[.string a0] rfl (by (try simp only [List.map_toArray, List.map_cons, List.map_nil]); first | done | rfl | (simp only [List.length_drop, List.length_take]; rfl)) ?_; (with_reducible refine (utf8_DecodeRuneInString.calls a0 t105 t106 _ A2.out (by first | exact hT | (refine Tabs.below hT ?_; (repeat (first | (with_reducible first | exact HB.out | exact Below.refl _ _ | apply below_alloc | apply pw_below_drewN | apply below_drew1) | exact HB.out))))).mono ?_); rintro e w23 ⟨rfl, hb⟩; refine ⟨_, rfl, ?_⟩; have n0_ := Aside0.mk (below_step (by repeat (first | (with_reducible first | exact HB.out | apply below_alloc | apply pw_below_drewN | apply below_drew1) | exact HB.out)) hb); clear HB; have HB := n0_; clear n0_; (try clear hb); (try clear hb2); (try clear hk); (try clear hi)))
            go_ret2
            exact ⟨by first | rfl | (simp [errW_none, errW_some] <;> rfl) | (simp [*, errW_none, errW_some] <;> rfl), by repeat (first | (with_reducible first | exact HB.out | apply below_alloc | apply pw_below_drewN | apply below_drew1) | exact HB.out)⟩
def stringslite_HasPrefix.f (a0 : ByteArray) (a1 : ByteArray) : Option (Bool) := if (a0.size : Int) ≥ (a1.size : Int) then (if 0 ≤ (a1.size : Int) then (if (a1.size : Int) ≤ (a0.size : Int) then (some ((a0.extract 0 ((a1.size : Int) : Int).toNat).toList == a1.toList)) else (none)) else (none)) else (some false)
set_option maxHeartbeats 8000000 in
set_option maxRecDepth 100000 in
theorem stringslite_HasPrefix.calls (a0 : ByteArray) (a1 : ByteArray) (r : Bool) (w : World) (h : stringslite_HasPrefix.f a0 a1 = some r) :
    Calls Tryd.prog 114 #[.string a0, .string a1] w fun e w' => e = .returned (.bool r) ∧ Drawn0 w w' := by
  have H : (if (a0.size : Int) ≥ (a1.size : Int) then (if 0 ≤ (a1.size : Int) then (if (a1.size : Int) ≤ (a0.size : Int) then (some ((a0.extract 0 ((a1.size : Int) : Int).toNat).toList == a1.toList)) else (none)) else (none)) else (some false)) = some r := h
  clear h
  by_cases c3 : (a0.size : Int) ≥ (a1.size : Int)
  · rw [if_pos c3] at H
    have c3b0 : decide ((a1.size : Int) ≤ (a0.size : Int)) = true := decide_eq_true c3
    have c3b1 : decide (a1.size ≤ a0.size) = true := decide_eq_true (Int.ofNat_le.mp c3)
    clear c3
    by_cases c4 : 0 ≤ (a1.size : Int)
    · rw [if_pos c4] at H
      have c4b0 := eq_true c4
      have c4b1 : decide (0 ≤ (a1.size : Int)) = true := decide_eq_true c4
      clear c4
      by_cases c5 : (a1.size : Int) ≤ (a0.size : Int)
      · rw [if_pos c5] at H
        have c5b0 := eq_true c5
        have c5b1 : decide ((a1.size : Int) ≤ (a0.size : Int)) = true := decide_eq_true c5
        clear c5
        obtain rfl := Option.some.inj H
        go_enter Tryd.func114, Tryd.ntmps114
        go_wp2
        go_ret
        exact ⟨by first | rfl | (simp; done) | (simp [*]; done), by repeat (first | exact Drawn0.refl _ | apply Drawn0.step)⟩
      · rw [if_neg c5] at H
        exact absurd H (by simp)
    · rw [if_neg c4] at H
      exact absurd H (by simp)
  · rw [if_neg c3] at H
    have c3b0 : decide ((a1.size : Int) ≤ (a0.size : Int)) = false := decide_eq_false c3
    have c3b1 : decide (a1.size ≤ a0.size) = false := decide_eq_false (fun h => c3 (Int.ofNat_le.mpr h))
    clear c3
    obtain rfl := Option.some.inj H
    go_enter Tryd.func114, Tryd.ntmps114
    go_wp2
    go_ret
    exact ⟨by first | rfl | (simp; done) | (simp [*]; done), by repeat (first | exact Drawn0.refl _ | apply Drawn0.step)⟩
def strings_HasPrefix.f (a0 : ByteArray) (a1 : ByteArray) : Option (Bool) := (stringslite_HasPrefix.f a0 a1).bind fun t107 => (some t107)
set_option maxHeartbeats 8000000 in
set_option maxRecDepth 100000 in
theorem strings_HasPrefix.calls (a0 : ByteArray) (a1 : ByteArray) (r : Bool) (w : World) (h : strings_HasPrefix.f a0 a1 = some r) :
    Calls Tryd.prog 90 #[.string a0, .string a1] w fun e w' => e = .returned (.bool r) ∧ Drawn0 w w' := by
  have H : ((stringslite_HasPrefix.f a0 a1).bind fun t107 => (some t107)) = some r := h
  clear h
  replace H := Option.bind_eq_some_iff.mp H
  obtain ⟨t107, A30, H⟩ := H
  replace H : (some t107) = some r := H
  have A3 := Aside0.mk A30
  clear A30
  obtain rfl := Option.some.inj H
  go_enter Tryd.func90, Tryd.ntmps90
  go_wp2_with (first | ((with_reducible refine gate_callee (f := 114) rfl ?_); refine goesL_ (some 7) rfl rfl Tryd.func114 (by kernel_rfl) rfl #[.string a0, .string a1] rfl (by (try simp only [List.map_toArray, List.map_cons, List.map_nil]); first | done | rfl | (simp only [List.length_drop, List.length_take]; rfl)) ?_; (with_reducible refine (stringslite_HasPrefix.calls a0 a1 t107 _ A3.out).mono ?_); rintro e w' ⟨rfl, ⟨nd, rfl⟩⟩; refine ⟨_, rfl, ?_⟩))
  go_ret
  exact ⟨by first | rfl | (simp; done) | (simp [*]; done), by repeat (first | exact Drawn0.refl _ | apply Drawn0.step)⟩
end Go.Proofs.YtfaelejeihmgcaaDoor.Wd
end

section
namespace Go.Proofs.YtfaelejeihmgcaaDoor.Bld
open Go.RowKit
theorem info5 : (Tryd.prog.info? 5).map (fun i => (i.zero, i.size, i.bytes)) = some (some (.int .u8 0), 1, 1) := by kernel_rfl
theorem size82 : (Tryd.prog.info? 82).map (·.size) = some 2 := by kernel_rfl
theorem lies82 : liesAt Tryd.prog Tryd.prog.depth 82 (2 / Tryd.prog.cellsOf 82) 0 82 1 = true := by kernel_rfl
set_option maxHeartbeats 1000000 in
set_option maxRecDepth 100000 in
theorem copyCheck_fresh (b : Nat) (w : World) (h0 : w.cell? ⟨b, 0, none⟩ = some (.pointer none)) (hsh : w.shape? b = some (82, 2)) (hfz : w.frozen? ⟨b, 0, none⟩ = false) :
    Calls Tryd.prog 94 #[.pointer (some ⟨b, 0, none⟩)] w fun e w' => e = .returned (.tuple #[]) ∧ w' = w.setCell ⟨b, 0, none⟩ (.pointer (some ⟨b, 0, none⟩)) := by
  obtain ⟨j, hj, hjs⟩ := Option.map_eq_some_iff.1 size82
  go_enter Tryd.func94, Tryd.ntmps94
  go_wp2
  rw [Lib.run_to_unsafe w ⟨b, 0, none⟩ Tryd.underlying80 Tryd.underlying157 hj (by rw [hjs]; decide) hsh (Nat.zero_lt_succ 1)]
  simp only [Result.andThen]
  rw [Oper.upon_value]
  go_wp2
  rw [run_callFunc_extern Tryd.func116 (by kernel_rfl) (by kernel_rfl) (by kernel_rfl) (e := Extern.AbiNoEscape.same) (by kernel_rfl)]
  rw [Lib.run_noEscape]
  simp only [Result.andThen]
  rw [Oper.upon_value]
  go_wp2
  rw [Lib.run_from_unsafe w ⟨b, 0, none⟩ Tryd.underlying157 Tryd.underlying80 hj hsh lies82]
  simp only [Result.andThen]
  rw [Oper.upon_value]
  go_wp2
  go_end0
  exact ⟨rfl, rfl⟩
set_option maxHeartbeats 1000000 in
set_option maxRecDepth 100000 in
theorem copyCheck_used (b : Nat) (w : World) (h0 : w.cell? ⟨b, 0, none⟩ = some (.pointer (some ⟨b, 0, none⟩))) :
    Calls Tryd.prog 94 #[.pointer (some ⟨b, 0, none⟩)] w fun e w' => e = .returned (.tuple #[]) ∧ w' = w := by
  obtain ⟨j, hj, _⟩ := Option.map_eq_some_iff.1 size82
  go_enter Tryd.func94, Tryd.ntmps94
  go_wp2
  rw [Lib.run_neq_ptr_same w _ Tryd.underlying80 hj]
  go_wp2
  go_end0
  exact ⟨rfl, rfl⟩
/-- A builder in block b, its buffer v, which holds the bytes l; buffer and builder lie from block B on. -/
structure Is (B b : Nat) (v : Value) (l : List UInt8) (w : World) : Prop where
  hB : B ≤ b
  blk : ∃ p, (p = .pointer none ∨ p = .pointer (some ⟨b, 0, none⟩)) ∧ w.heap[b]? = some (.cells #[p, v] 82 (0, 0))
  own : w.ownsRow B 5 1 v l.length (Lib.byteCells l)
/-- Every block but the builder's and its buffer's stands. -/
def Kept (b : Nat) (v : Value) (w w' : World) : Prop := ∀ k o, w.heap[k]? = some o → k ≠ b → some k ≠ v.ownBlock → w'.heap[k]? = some o
theorem Is.lt {B b : Nat} {v : Value} {l : List UInt8} {w : World} (h : Is B b v l w) : b < w.heap.size := by
  obtain ⟨p, _, hb⟩ := h.blk
  exact (Array.getElem?_eq_some_iff.1 hb).1
theorem Is.ne {B b : Nat} {v : Value} {l : List UInt8} {w : World} (h : Is B b v l w) : v.ownBlock ≠ some b := by
  obtain ⟨p, _, hb⟩ := h.blk
  exact Lib.ownBlock_ne h.own hb (by decide)
/-- where the builder's and the buffer's blocks stand as_ they stood -/
theorem Is.move {B b : Nat} {v : Value} {l : List UInt8} {w w' : World} (h : Is B b v l w) (h0 : w'.heap[b]? = w.heap[b]?) (h1 : ∀ k, v.ownBlock = some k → w'.heap[k]? = w.heap[k]?) : Is B b v l w' := by
  refine ⟨h.hB, ?_, ?_⟩
  · obtain ⟨p, hp, hb⟩ := h.blk
    exact ⟨p, hp, h0.trans hb⟩
  · refine ⟨h.own.1, ?_⟩
    rcases h.own.2 with h2 | ⟨g, cap, cur, hv, hg, hc, r⟩
    · exact .inl h2
    · exact .inr ⟨g, cap, cur, hv, hg, (h1 g (by rw [hv]; rfl)).trans hc, r⟩
theorem Is.own_lt {B b : Nat} {v : Value} {l : List UInt8} {w : World} (h : Is B b v l w) : ∀ k, v.ownBlock = some k → k < w.heap.size := by
  intro k hk
  rcases h.own.2 with ⟨hv, _⟩ | ⟨g, cap, cur, hv, hg, hc, _⟩
  · rw [hv] at hk; simp [Value.ownBlock] at hk
  · rw [hv] at hk
    simp only [Value.ownBlock, Option.some.injEq] at hk
    subst hk
    exact (Array.getElem?_eq_some_iff.1 hc).1
theorem Is.below {B b : Nat} {v : Value} {l : List UInt8} {w w' : World} (h : Is B b v l w) (hb : Below w.heap.size w w') : Is B b v l w' :=
  h.move (hb.block b h.lt) (fun k hk => hb.block k (h.own_lt k hk))
theorem Is.drew {B b : Nat} {v : Value} {l : List UInt8} {w : World} (h : Is B b v l w) : Is B b v l w.drew := h.move rfl (fun _ _ => rfl)
theorem Is.alloc {B b : Nat} {v : Value} {l : List UInt8} {w : World} (h : Is B b v l w) (o : Obj) : Is B b v l (w.alloc o) :=
  h.move (Lib.alloc_old w o b h.lt) (fun k hk => Lib.alloc_old w o k (h.own_lt k hk))
theorem Is.builder {B b : Nat} {v : Value} {l : List UInt8} {w : World} (h : Is B b v l w) : Lib.IsBuilder 82 5 B b (Lib.byteCells l) w := by
  obtain ⟨p, hp, hb⟩ := h.blk
  have hA : Lib.BuilderAt 82 5 B b p (Lib.byteCells l) w := ⟨h.hB, v, hb, by rw [Lib.byteCells_length]; exact h.own, h.ne⟩
  rcases hp with rfl | rfl
  · exact .inl hA
  · exact .inr hA
/-- 'var b strings.Builder' -/
theorem Is.fresh (w : World) : Is w.heap.size w.heap.size (.slice none 0 0) [] (w.alloc (.cells #[.pointer none, .slice none 0 0] 82)) := by
  refine ⟨Nat.le_refl _, ⟨_, .inl rfl, ?_⟩, ⟨by simp [Lib.byteCells], .inl ⟨rfl, rfl⟩⟩⟩
  exact heap_alloc_new w _
theorem copyCheck (B b : Nat) (v : Value) (l : List UInt8) (w : World) (h : Is B b v l w) :
    Calls Tryd.prog 94 #[.pointer (some ⟨b, 0, none⟩)] w fun e w' => e = .returned (.tuple #[]) ∧ (w'.heap[b]? = some (.cells #[.pointer (some ⟨b, 0, none⟩), v] 82 (0, 0)) ∧ Is B b v l w' ∧ Below B w w' ∧ Kept b v w w') := by
  obtain ⟨p, hp, hb⟩ := h.blk
  rcases hp with rfl | rfl
  · refine (copyCheck_fresh b w (by rw [Lib.cell_of_heap hb]; rfl) (by simp [World.shape?, hb]) (Lib.frozen_of_heap hb 0)).mono ?_
    rintro e w' ⟨rfl, rfl⟩
    have e1 : (w.setCell ⟨b, 0, none⟩ (.pointer (some ⟨b, 0, none⟩))).heap[b]? = some (.cells #[.pointer (some ⟨b, 0, none⟩), v] 82 (0, 0)) := by
      simp [World.setCell, Array.getElem?_modify, hb]
    refine ⟨rfl, e1, ⟨h.hB, ⟨_, .inr rfl, e1⟩, ?_⟩, (Below.refl B w).setCell (p := ⟨b, 0, none⟩) h.hB _, fun k o hk hne _ => ?_⟩
    · exact h.own.kept (row := some b) ⟨rfl, rfl, rfl, by simp [World.setCell], fun k _ hk => Below.heap_setCell _ _ _ _ (fun e => hk (by simp [e]))⟩ (Or.inr h.ne)
    · rw [Below.heap_setCell _ _ _ _ (fun e => hne e)]
      exact hk
  · refine (copyCheck_used b w (by rw [Lib.cell_of_heap hb]; rfl)).mono ?_
    rintro e w' ⟨rfl, rfl⟩
    exact ⟨rfl, hb, h, Below.refl B _, fun _ _ hk _ _ => hk⟩
set_option maxHeartbeats 2000000 in
set_option maxRecDepth 100000 in
theorem writeString (B b : Nat) (v : Value) (l : List UInt8) (s : ByteArray) (w : World) (h : Is B b v l w) (hlen : l.length + s.size ≤ 140737488355328) (hBw : B ≤ w.heap.size) :
    Calls Tryd.prog 58 #[.pointer (some ⟨b, 0, none⟩), .string s] w fun e w' => e = .returned (.tuple #[.int .i64 s.size, .nilIface]) ∧ ∃ v', Is B b v' (l ++ s.data.toList) w' ∧ Below B w w' ∧ Kept b v w w' := by
  obtain ⟨i0, hi, hz0, hz1, hz2⟩ := info_parts info5
  go_enter Tryd.func58, Tryd.ntmps58
  go_wp2_with (go_at_call 94; refine (copyCheck B b v l _ h).mono ?_)
  rintro e w1 ⟨rfl, hbk, h1, hb1, hk1⟩
  have c0 : w1.cell? ⟨b, 0, none⟩ = some (.pointer (some ⟨b, 0, none⟩)) := by rw [Lib.cell_of_heap hbk]; rfl
  have c1 : w1.cell? ⟨b, 1, none⟩ = some v := by rw [Lib.cell_of_heap hbk]; rfl
  go_wp2_with (at_builtin; refine Lib.wpList_append_own_string _ rfl _ _ 32 9 rfl B 5 i0 Tryd.underlying32 Tryd.underlying9 hi hz0 hz1 hz2 _ _ _ rfl h1.own s rfl ?c3 ?c4 ?c5 ?_)
  case c3 => unfold maxLen; omega
  case c4 => omega
  case c5 => have := hb1.size; omega
  intro v' w2 hown' hgrow _
  have hlt : b < w1.heap.size := h1.lt
  have hb2 : w2.heap[b]? = some (.cells #[.pointer (some ⟨b, 0, none⟩), v] 82 (0, 0)) := by
    rw [hgrow.block b hlt (fun e => h1.ne e.symm)]
    exact hbk
  have d0 : w2.cell? ⟨b, 0, none⟩ = some (.pointer (some ⟨b, 0, none⟩)) := by rw [Lib.cell_of_heap hb2]; rfl
  have d1 : w2.cell? ⟨b, 1, none⟩ = some v := by rw [Lib.cell_of_heap hb2]; rfl
  have f1 : w2.frozen? ⟨b, 1, none⟩ = false := Lib.frozen_of_heap hb2 1
  have hown2 : w2.ownsRow B 5 1 v' (l ++ s.data.toList).length (Lib.byteCells (l ++ s.data.toList)) := by
    rw [Lib.byteCells_append, ← Lib.strCells_eq]
    have e : (l ++ s.data.toList).length = l.length + s.size := by rw [List.length_append, Array.length_toList]; rfl
    rw [e]
    exact hown'
  have hne2 : v'.ownBlock ≠ some b := Lib.ownBlock_ne hown2 hb2 (by decide)
  obtain ⟨ao, n', cap, hv⟩ : ∃ ao n' cap, v' = .slice ao n' cap := by
    rcases hown'.2 with ⟨hv, _⟩ | ⟨g, cap, cur, hv, _⟩
    · exact ⟨_, _, _, hv⟩
    · exact ⟨_, _, _, hv⟩
  subst hv
  go_wp2
  go_ret2
  have hs1 := hb1.size
  refine ⟨rfl, .slice ao n' cap, ⟨h.hB, ⟨.pointer (some ⟨b, 0, none⟩), .inr rfl, ?_⟩, ?_⟩, ?_, ?_⟩
  · simp [World.setCell, Array.getElem?_modify, hb2]
  · exact hown2.kept (row := some b) ⟨rfl, rfl, rfl, by simp [World.setCell], fun k _ hk => Below.heap_setCell _ _ _ _ (fun e => hk (by simp [e]))⟩ (Or.inr hne2)
  · exact (hb1.grown hgrow (by omega) (fun k hk => (h1.own.lt k hk).1)).setCell (p := ⟨b, 1, none⟩) h.hB _
  · intro k o hk hne hnv
    rw [Below.heap_setCell _ _ _ _ (fun e => hne e)]
    have := hk1 k o hk hne hnv
    rw [hgrow.block k (Array.getElem?_eq_some_iff.1 this).1 hnv]
    exact this
set_option maxHeartbeats 2000000 in
set_option maxRecDepth 100000 in
theorem writeByte (B b : Nat) (v : Value) (l : List UInt8) (c : UInt8) (w : World) (h : Is B b v l w) (hlen : l.length + 1 ≤ 140737488355328) (hBw : B ≤ w.heap.size) :
    Calls Tryd.prog 56 #[.pointer (some ⟨b, 0, none⟩), .int .u8 c.toNat] w fun e w' => e = .returned .nilIface ∧ ∃ v', Is B b v' (l ++ [c]) w' ∧ Below B w w' ∧ Kept b v w w' := by
  obtain ⟨i0, hi, hz0, hz1, hz2⟩ := info_parts info5
  go_enter Tryd.func56, Tryd.ntmps56
  go_wp2_with (go_at_call 94; refine (copyCheck B b v l _ h).mono ?_)
  rintro e w1 ⟨rfl, hbk, h1, hb1, hk1⟩
  have c0 : w1.cell? ⟨b, 0, none⟩ = some (.pointer (some ⟨b, 0, none⟩)) := by rw [Lib.cell_of_heap hbk]; rfl
  have c1 : w1.cell? ⟨b, 1, none⟩ = some v := by rw [Lib.cell_of_heap hbk]; rfl
  go_wp2_with (at_builtin; refine wpList_append_own _ rfl _ _ 32 rfl B 5 i0 (.int .u8 0) 1 1 Tryd.underlying32 hi hz0 hz1 hz2 rfl (by decide) _ _ _ rfl (h1.own.alloc _) ⟨w1.heap.size, 0, none⟩ 1 1 [.int .u8 c.toNat] rfl rfl ?c1 ?c2 ?c3 ?c4 ?c5 ?_)
  case c1 =>
    intro j u hj
    match j, hj with
    | 0, hj => simp at hj; subst hj; simp [Addr.add]
  case c2 => intro u hu; simp at hu; subst hu; rfl
  case c3 => unfold maxLen; omega
  case c4 => omega
  case c5 => have := hb1.size; simp; omega
  intro v' w2 hown' hgrow _
  have hlt : b < w1.heap.size := h1.lt
  have hb2 : w2.heap[b]? = some (.cells #[.pointer (some ⟨b, 0, none⟩), v] 82 (0, 0)) := by
    rw [hgrow.block b (by simp; omega) (fun e => h1.ne e.symm), Lib.alloc_old w1 _ b hlt]
    exact hbk
  have d0 : w2.cell? ⟨b, 0, none⟩ = some (.pointer (some ⟨b, 0, none⟩)) := by rw [Lib.cell_of_heap hb2]; rfl
  have d1 : w2.cell? ⟨b, 1, none⟩ = some v := by rw [Lib.cell_of_heap hb2]; rfl
  have f1 : w2.frozen? ⟨b, 1, none⟩ = false := Lib.frozen_of_heap hb2 1
  have hown2 : w2.ownsRow B 5 1 v' (l ++ [c]).length (Lib.byteCells (l ++ [c])) := by
    rw [Lib.byteCells_append]
    have e : (l ++ [c]).length = l.length + 1 := by simp
    rw [e]
    exact hown'
  have hne2 : v'.ownBlock ≠ some b := Lib.ownBlock_ne hown2 hb2 (by decide)
  obtain ⟨ao, n', cap, hv⟩ : ∃ ao n' cap, v' = .slice ao n' cap := by
    rcases hown'.2 with ⟨hv, _⟩ | ⟨g, cap, cur, hv, _⟩
    · exact ⟨_, _, _, hv⟩
    · exact ⟨_, _, _, hv⟩
  subst hv
  go_wp2
  go_ret
  have hs1 := hb1.size
  refine ⟨rfl, .slice ao n' cap, ⟨h.hB, ⟨.pointer (some ⟨b, 0, none⟩), .inr rfl, ?_⟩, ?_⟩, ?_, ?_⟩
  · simp [World.setCell, Array.getElem?_modify, hb2]
  · exact hown2.kept (row := some b) ⟨rfl, rfl, rfl, by simp [World.setCell], fun k _ hk => Below.heap_setCell _ _ _ _ (fun e => hk (by simp [e]))⟩ (Or.inr hne2)
  · exact ((hb1.alloc (by omega) _).grown hgrow (by simp; omega) (fun k hk => (h1.own.lt k hk).1)).setCell (p := ⟨b, 1, none⟩) h.hB _
  · intro k o hk hne hnv
    rw [Below.heap_setCell _ _ _ _ (fun e => hne e)]
    have h3 := hk1 k o hk hne hnv
    have hl3 := (Array.getElem?_eq_some_iff.1 h3).1
    rw [hgrow.block k (by simp; omega) hnv, Lib.alloc_old w1 _ k hl3]
    exact h3
/-- String of such a builder -/
theorem string (B b : Nat) (v : Value) (l : List UInt8) (w : World) (h : Is B b v l w) (hBw : B ≤ w.heap.size) :
    Calls Tryd.prog 59 #[.pointer (some ⟨b, 0, none⟩)] w fun e w' => e = .returned (.string ⟨l.toArray⟩) ∧ Below B w w' :=
  Tryd.Builder_String_any B b l w h.builder hBw
end Go.Proofs.YtfaelejeihmgcaaDoor.Bld
end

section
namespace Go.Proofs.YtfaelejeihmgcaaDoor.Wd
/-- how many bytes the rune at a place has -/
def width (s : ByteArray) (i : Nat) : Nat := (Utf8.decode s i).2
/-- may the rune at a place stand in a plain word? -/
def mayR (r n : Nat) : Bool := !(decide (r = 65533 ∧ n < 2) || decide (r = 34) || decide (r = 92) || decide (r < 33) || decide (127 ≤ r ∧ r ≤ 160))
def mayB (s : ByteArray) (i : Nat) : Bool := mayR (Utf8.decode s i).1 (Utf8.decode s i).2
/-- the byte at a place -/
def byteAt (s : ByteArray) (i : Nat) : UInt8 := s.get! i
def bytesAt (s : ByteArray) (i n : Nat) : List UInt8 := (s.data.toList.drop i).take n
def plainFrom (s : ByteArray) : Nat → Nat → Bool
  | 0, _ => true
  | f + 1, pos => if pos < s.size then mayB s pos && plainFrom s f (pos + width s pos) else true
def plainB (s : ByteArray) : Bool := plainFrom s s.size 0 && decide (s.size ≠ 0)
def hexD (n : Nat) : UInt8 := if n < 10 then (48 + n).toUInt8 else (87 + n).toUInt8
def hexQ (c : UInt8) : List UInt8 := [92, hexD (c.toNat / 16), hexD (c.toNat % 16)]
def quote1 (s : ByteArray) (pos : Nat) : List UInt8 :=
  if mayB s pos || byteAt s pos == 32 then bytesAt s pos (width s pos)
  else if byteAt s pos == 34 || byteAt s pos == 92 then [92, byteAt s pos]
  else (bytesAt s pos (width s pos)).flatMap hexQ
def quoteFrom (s : ByteArray) : Nat → Nat → List UInt8
  | 0, _ => []
  | f + 1, pos => if pos < s.size then quote1 s pos ++ quoteFrom s f (pos + width s pos) else []
def quoteB (s : ByteArray) : List UInt8 := if plainB s then s.data.toList else 34 :: (quoteFrom s s.size 0 ++ [34])
def hexV (c : UInt8) : Option Nat := if 48 ≤ c.toNat ∧ c.toNat ≤ 57 then some (c.toNat - 48) else if 97 ≤ c.toNat ∧ c.toNat ≤ 102 then some (c.toNat - 87) else none
def esc2 : Option Nat → Option Nat → Option (UInt8 × Nat)
  | some a, some b => some ((16 * a + b).toUInt8, 2)
  | some _, none => none
  | none, _ => none
/-- the byte that stands behind a backslash, and how many bytes say it -/
def escB (s : ByteArray) (i : Nat) : Option (UInt8 × Nat) :=
  if i < s.size ∧ (byteAt s i = 34 ∨ byteAt s i = 92) then some (byteAt s i, 1)
  else if i + 1 < s.size then esc2 (hexV (byteAt s i)) (hexV (byteAt s (i + 1)))
  else none
def quotedFrom (s : ByteArray) : Nat → Nat → List UInt8 → Option (List UInt8 × Nat)
  | 0, _, _ => none
  | f + 1, pos, acc =>
    if pos < s.size then
      if mayB s pos || byteAt s pos == 32 then quotedFrom s f (pos + width s pos) (acc ++ bytesAt s pos (width s pos))
      else if byteAt s pos = 34 then some (acc, pos + 1)
      else if byteAt s pos = 92 then
        match escB s (pos + 1) with
        | some (c, n) => quotedFrom s f (pos + 1 + n) (acc ++ [c])
        | none => none
      else none
    else none
theorem width_pos (s : ByteArray) (i : Nat) : 1 ≤ width s i := by
  unfold width
  rw [Lib.decode_at]
  unfold Lib.decodeN
  repeat' split
  all_goals simp
theorem width_le (s : ByteArray) (i : Nat) (h : i < s.size) : i + width s i ≤ s.size := by
  unfold width
  rw [Lib.decode_at]
  unfold Lib.decodeN
  repeat' split
  all_goals simp
  all_goals omega
end Go.Proofs.YtfaelejeihmgcaaDoor.Wd
end

section
namespace Go.Proofs.YtfaelejeihmgcaaDoor.Wd
open Go.RowKit Go.Proofs.YtfaelejeihmgcaaDoorW.PrintWords Go.Proofs.YtfaelejeihmgcaaDoorW.PrintLast
theorem get_lt (t : ByteArray) (i : Nat) (h : i < t.size) : t.get! i = t[i] := by
  cases t with
  | mk d => exact getElem!_pos d i h
theorem get_ge (t : ByteArray) (i : Nat) (h : ¬ i < t.size) : t.get! i = default := by
  cases t with
  | mk d => exact getElem!_neg d i h
theorem get_extract (s : ByteArray) (i j : Nat) : (s.extract i s.size).get! j = s.get! (i + j) := by
  by_cases h : i + j < s.size
  · have h1 : j < (s.extract i s.size).size := by simp; omega
    rw [get_lt _ _ h1, get_lt _ _ h, ByteArray.getElem_extract]
  · rw [get_ge _ _ (by simp; omega), get_ge _ _ h]
theorem decode_extract (s : ByteArray) (i j : Nat) : Utf8.decode (s.extract i s.size) j = Utf8.decode s (i + j) := by
  rw [Lib.decode_at, Lib.decode_at]
  simp only [get_extract, ByteArray.size_extract, Nat.add_assoc]
  congr 1
  omega
theorem may_f (s : ByteArray) (i : Nat) (h : i < s.size) : word_may.f (s.extract i s.size) = some (mayB s i, (width s i : Int)) := by
  have e : Lib.decodeGo (s.extract i s.size) = Utf8.decode s i := by
    unfold Lib.decodeGo
    rw [if_neg (by simp; omega), decode_extract]
    rfl
  unfold word_may.f utf8_DecodeRuneInString.f
  simp only [Option.bind_some, e, mayB, width]
  generalize (Utf8.decode s i).1 = r
  generalize (Utf8.decode s i).2 = n
  unfold mayR
  repeat' split
  all_goals (simp only [Option.some.injEq, Prod.mk.injEq, and_true]; (first | (rw [Bool.eq_iff_iff]; simp; omega) | (simp; omega)))
theorem notEmpty (s : ByteArray) : (!s.toList.isEmpty) = decide (s.size ≠ 0) := by
  rw [Lib.toList_data, Lib.size_eq]
  cases s.data.toList <;> simp
theorem ret_bool {a b : Bool} (h : a = b) : Ending.returned (.bool a) = .returned (.bool b) := by rw [h]
def word_plain.f (a0 : ByteArray) : Option Bool := some (plainB a0)
set_option maxHeartbeats 2000000 in
set_option maxRecDepth 100000 in
theorem word_plain.calls (a0 : ByteArray) (r : Bool) (w : World) (h : word_plain.f a0 = some r) (hT : Tabs w) :
    Calls Tryd.prog 55 #[.string a0] w fun e w' => e = .returned (.bool r) ∧ Below w.heap.size w w' := by
  obtain rfl := Option.some.inj h
  clear h
  go_enter Tryd.func55, Tryd.ntmps55
  go_wp2
  go_loopw [] (fun wr => ∃ pos fuel : Nat, wr.heap[w.heap.size]? = some (.stringIter a0 pos) ∧ Below w.heap.size w wr ∧ Aside0 (plainFrom a0 fuel pos = plainFrom a0 a0.size 0) ∧ a0.size ≤ pos + fuel) (fun wr => a0.size - wr.iterPos w.heap.size)
  case atStart =>
    refine ⟨0, a0.size, ?_, (Below.refl _ w).alloc (Nat.le_refl _) _, ⟨rfl⟩, by omega⟩
    exact World.iter_heap w a0 0
  case round =>
    obtain ⟨pos, fuel, hit, hbw, hpl, hfu⟩ := hrel
    by_cases hp : pos < a0.size
    · have hnx : ∀ ty, (Instr.next (.pointer (some ⟨w.heap.size, 0, none⟩)) true ty).run Tryd.prog wr = _ := fun ty => Lib.run_next_any_at wr w.heap.size a0 pos ty hit hp
      have hwd := width_pos a0 pos
      have hwl := width_le a0 pos hp
      have hit2 := Lib.iterAt_heap wr w.heap.size a0 pos (pos + (Utf8.decode a0 pos).2) hit
      have hbw2 := Lib.below_iterAt hbw (k := w.heap.size) (Nat.le_refl _) a0 (pos + (Utf8.decode a0 pos).2)
      obtain ⟨f, rfl⟩ : ∃ f, fuel = f + 1 := ⟨fuel - 1, by omega⟩
      have hmf := Aside0.mk (may_f a0 pos hp)
      have hpl2 : Aside0 ((mayB a0 pos && plainFrom a0 f (pos + width a0 pos)) = plainFrom a0 a0.size 0) := ⟨by have := hpl.out; rw [plainFrom, if_pos hp] at this; exact this⟩
      clear hpl
      cases hm : mayB a0 pos
      · rw [hm] at hmf hpl2
        clear hm
        go_wp2_with fail
        refine (word_may.calls _ false (width a0 pos) _ hmf.out (hT.below hbw2)).mono ?_
        rintro e w1 ⟨rfl, hb⟩
        go_wp2
        go_ret
        refine ⟨ret_bool ?_, hbw2.trans (hb.mono (by rw [Lib.iterAt_size]; exact hbw.size))⟩
        have h1 := hpl2.out
        simp only [Bool.false_and] at h1
        simp [plainB, ← h1]
      · rw [hm] at hmf hpl2
        clear hm
        go_wp2_with fail
        refine (word_may.calls _ true (width a0 pos) _ hmf.out (hT.below hbw2)).mono ?_
        rintro e w1 ⟨rfl, hb⟩
        have hit3 : w1.heap[w.heap.size]? = some (.stringIter a0 (pos + (Utf8.decode a0 pos).2)) := by
          rw [hb.block _ (by rw [Lib.iterAt_size]; exact (Array.getElem?_eq_some_iff.1 hit).1)]; exact hit2
        have hbw3 : Below w.heap.size w w1 := hbw2.trans (hb.mono (by rw [Lib.iterAt_size]; exact hbw.size))
        go_wp2
        go_roundw
        case rel =>
          refine ⟨pos + width a0 pos, f, hit3, hbw3, ⟨?_⟩, by omega⟩
          have h1 := hpl2.out
          simpa using h1
        case measure =>
          simp only [World.iterPos, hit3, hit]
          unfold width at hwd
          omega
    · have hnx : ∀ ty, (Instr.next (.pointer (some ⟨w.heap.size, 0, none⟩)) true ty).run Tryd.prog wr = _ := fun ty => Lib.run_next_end_at wr w.heap.size a0 pos ty hit hp
      go_wp2
      go_ret
      refine ⟨ret_bool ?_, hbw⟩
      have h1 := hpl.out
      have h2 : plainFrom a0 fuel pos = true := by
        cases fuel with
        | zero => rfl
        | succ f => rw [plainFrom, if_neg hp]
      rw [plainB, ← h1, h2]
      rw [Bool.true_and, ← notEmpty]
end Go.Proofs.YtfaelejeihmgcaaDoor.Wd
end

section
namespace Go.Proofs.YtfaelejeihmgcaaDoor.Wd
open Go.RowKit Go.Proofs.YtfaelejeihmgcaaDoorW.PrintWords Go.Proofs.YtfaelejeihmgcaaDoorW.PrintLast
def quotedR (a0 : ByteArray) : ByteArray × Int × Bool :=
  match quotedFrom a0 a0.size 1 [] with
  | some (l, n) => (⟨l.toArray⟩, (n : Int), true)
  | none => (⟨#[]⟩, 0, false)
def word_quoted.f (a0 : ByteArray) : Option (ByteArray × Int × Bool) := if a0.size ≤ 1099511627776 then some (quotedR a0) else none
theorem slice_at (s : ByteArray) (i n : Nat) (h : i + n ≤ s.size) (W : World) :
    (Instr.slice 9 (.string s) (some (.int .i64 (i : Int))) (some (.int .i64 ((i : Int) + (n : Int)))) none).run Tryd.prog W = .ok (.string (s.extract i (i + n))) W := by
  have := run_slice_string (P := Tryd.prog) W 9 s .i64 .i64 (i : Int) ((i : Int) + (n : Int)) Tryd.underlying9 (by omega) (by omega) (by omega)
  have e : ((i : Int) + (n : Int)).toNat = i + n := by omega
  rw [e] at this
  simpa using this
theorem extract_bytes (s : ByteArray) (i n : Nat) : (s.extract i (i + n)).data.toList = bytesAt s i n := by
  rw [Lib.extract_data, bytesAt]
  congr 1
  omega
theorem bt_get (t : ByteArray) (j : Int) : bt t j = ((t.get! j.toNat).toNat : Int) := by
  unfold bt
  split
  · rename_i h
    rw [get_lt t _ h]
  · rename_i h
    rw [get_ge t _ h]
    rfl
def digR : Option Nat → Option (Int × Bool)
  | some a => some ((a : Int), true)
  | none => some (0, false)
theorem digit_f (k : Nat) (c : UInt8) : word_digit.f (k + 1) (c.toNat : Int) = digR (hexV c) := by
  have hc := c.toNat_lt
  unfold word_digit.f hexV
  by_cases h1 : 48 ≤ c.toNat ∧ c.toNat ≤ 57
  · rw [if_pos (by omega), if_pos h1, word_digit.j0, if_pos (by simp; omega)]
    simp only [digR, Option.some.injEq, Prod.mk.injEq, and_true]
    omega
  · rw [if_neg h1]
    have e : word_digit.j0 (k + 1) (c.toNat : Int) false = digR (if 97 ≤ c.toNat ∧ c.toNat ≤ 102 then some (c.toNat - 87) else none) := by
      rw [word_digit.j0, if_neg (by simp)]
      by_cases h2 : 97 ≤ c.toNat ∧ c.toNat ≤ 102
      · rw [if_pos h2, if_pos (by omega), if_pos (by omega)]
        simp only [digR, Option.some.injEq, Prod.mk.injEq, and_true]
        omega
      · rw [if_neg h2]
        by_cases h3 : (c.toNat : Int) ≥ 97
        · rw [if_pos h3, if_neg (by omega)]; rfl
        · rw [if_neg h3]; rfl
    rw [← e]
    by_cases h3 : (c.toNat : Int) ≥ 48
    · rw [if_pos h3]
      congr 1
      simp
      omega
    · rw [if_neg h3]
theorem hexV_lt {c : UInt8} {a : Nat} (h : hexV c = some a) : a < 16 := by
  unfold hexV at h
  split at h
  · cases h; omega
  · split at h
    · cases h; omega
    · cases h
set_option maxRecDepth 100000 in
theorem or_nib : ∀ a b : Fin 16, Go.bits .or .u8 (((a.val : Nat) : Int) * 16 % 256) ((b.val : Nat) : Int) = 16 * ((a.val : Nat) : Int) + ((b.val : Nat) : Int) := by decide
/-- the escape behind a backslash, as_ the printed function tells it -/
def escOk (s : ByteArray) (i : Nat) : Option (UInt8 × Nat) → Prop
  | some (c, n) => word_escaped.f 9 (s.extract i s.size) = some ((c.toNat : Int), (n : Int), true)
  | none => ∃ x y, word_escaped.f 9 (s.extract i s.size) = some (x, y, false)
theorem esc_f (s : ByteArray) (i : Nat) : escOk s i (escB s i) := by
  have e0 : bt (s.extract i s.size) 0 = ((byteAt s i).toNat : Int) := by rw [bt_get, get_extract]; rfl
  have e1 : bt (s.extract i s.size) 1 = ((byteAt s (i + 1)).toNat : Int) := by rw [bt_get, get_extract]; rfl
  have ez : (s.extract i s.size).size = s.size - i := by simp
  have en : ((s.extract i s.size).toList = ([] : List UInt8)) ↔ s.size ≤ i := by
    rw [Lib.toList_data, ← List.length_eq_zero_iff, ← Lib.size_eq, ez]
    omega
  unfold escB
  by_cases h0 : i < s.size
  · have hf : word_escaped.f 9 (s.extract i s.size) = if ((byteAt s i).toNat : Int) = 34 then (word_escaped.j0 9 (s.extract i s.size) true) else (word_escaped.j0 9 (s.extract i s.size) (((byteAt s i).toNat : Int) == 92)) := by
      unfold word_escaped.f
      rw [if_neg (by rw [en]; omega), ez, if_pos (by omega), e0]
    by_cases h1 : byteAt s i = 34 ∨ byteAt s i = 92
    · rw [if_pos ⟨h0, h1⟩]
      show word_escaped.f 9 (s.extract i s.size) = _
      have hj : word_escaped.j0 9 (s.extract i s.size) true = some (((byteAt s i).toNat : Int), 1, true) := by
        rw [word_escaped.j0, if_pos rfl, ez, if_pos (by omega), e0]
      rw [hf]
      rcases h1 with h1 | h1
      · rw [if_pos (by rw [h1]; rfl)]
        exact hj
      · rw [if_neg (by rw [h1]; decide)]
        have : (((byteAt s i).toNat : Int) == 92) = true := by rw [h1]; rfl
        rw [this]
        exact hj
    · have n34 : ¬ ((byteAt s i).toNat : Int) = 34 := by
        intro h
        exact h1 (.inl (UInt8.toNat_inj.1 (by have : (byteAt s i).toNat = 34 := by omega
                                              simpa using this)))
      have n92 : (((byteAt s i).toNat : Int) == 92) = false := by
        rw [beq_eq_false_iff_ne]
        intro h
        exact h1 (.inr (UInt8.toNat_inj.1 (by have : (byteAt s i).toNat = 92 := by omega
                                              simpa using this)))
      rw [if_neg (fun h => h1 h.2)]
      rw [if_neg n34, n92, word_escaped.j0, if_neg (by simp), ez] at hf
      by_cases h2 : i + 1 < s.size
      · rw [if_pos h2]
        rw [if_neg (by omega), if_pos (by omega), e0, digit_f] at hf
        rw [e1] at hf
        cases ha : hexV (byteAt s i) with
        | none =>
          rw [ha] at hf
          simp only [digR, Option.bind_some] at hf
          rw [if_pos (by omega), digit_f] at hf
          show ∃ x y, word_escaped.f 9 (s.extract i s.size) = some (x, y, false)
          rw [hf]
          cases hb : hexV (byteAt s (i + 1)) with
          | none => exact ⟨_, _, rfl⟩
          | some b => exact ⟨_, _, rfl⟩
        | some a =>
          rw [ha] at hf
          simp only [digR, Option.bind_some] at hf
          rw [if_pos (by omega), digit_f] at hf
          cases hb : hexV (byteAt s (i + 1)) with
          | none =>
            rw [hb] at hf
            show ∃ x y, word_escaped.f 9 (s.extract i s.size) = some (x, y, false)
            rw [hf]
            exact ⟨_, _, rfl⟩
          | some b =>
            rw [hb] at hf
            have h16 := hexV_lt ha
            have h16' := hexV_lt hb
            have := or_nib ⟨a, h16⟩ ⟨b, h16'⟩
            simp only [digR, Option.bind_some, if_true] at hf
            show word_escaped.f 9 (s.extract i s.size) = _
            rw [hf, this]
            simp [Nat.mod_eq_of_lt (show 16 * a + b < 256 by omega)]
      · rw [if_pos (by omega)] at hf
        rw [if_neg h2]
        exact ⟨_, _, hf⟩
  · rw [if_neg (fun h => h0 h.1), if_neg (by omega)]
    refine ⟨0, 0, ?_⟩
    unfold word_escaped.f
    rw [if_pos (by rw [en]; omega), word_escaped.j0, if_neg (by simp), ez, if_pos (by omega)]
theorem esc2_le {a b : Option Nat} {c : UInt8} {n : Nat} (h : esc2 a b = some (c, n)) : n = 2 := by
  cases a <;> cases b <;> simp [esc2] at h
  exact h.2.symm
theorem escB_le {s : ByteArray} {i : Nat} {c : UInt8} {n : Nat} (h : escB s i = some (c, n)) : 1 ≤ n ∧ i + n ≤ s.size := by
  unfold escB at h
  split at h
  · cases h; omega
  · split at h
    · have := esc2_le h
      omega
    · cases h
theorem ret3 {a a' : ByteArray} {b b' : Int} {c c' : Bool} (h : (a, b, c) = (a', b', c')) : Ending.returned (.tuple #[.string a, .int .i64 b, .bool c]) = .returned (.tuple #[.string a', .int .i64 b', .bool c']) := by
  cases h; rfl
theorem quotedFrom_end (s : ByteArray) (fuel pos : Nat) (acc : List UInt8) (h : ¬ pos < s.size) : quotedFrom s fuel pos acc = none := by
  cases fuel with
  | zero => rfl
  | succ f => rw [quotedFrom, if_neg h]
set_option maxHeartbeats 2000000 in
set_option maxRecDepth 100000 in
theorem word_quoted.calls (a0 : ByteArray) (r1 : ByteArray) (r2 : Int) (r3 : Bool) (w : World) (h : word_quoted.f a0 = some (r1, r2, r3)) (hT : Tabs w) :
    Calls Tryd.prog 91 #[.string a0] w fun e w' => e = .returned (.tuple #[.string r1, .int .i64 r2, .bool r3]) ∧ Below w.heap.size w w' := by
  have hs : a0.size ≤ 1099511627776 := by
    unfold word_quoted.f at h
    split at h
    · assumption
    · cases h
  have hr : Aside0 (quotedR a0 = (r1, r2, r3)) := ⟨by unfold word_quoted.f at h; rw [if_pos hs] at h; exact Option.some.inj h⟩
  clear h
  go_enter Tryd.func91, Tryd.ntmps91
  go_wp2
  go_loopw [6] (fun i wr => ∃ (pos fuel : Nat) (acc : List UInt8) (v : Value), i = .int .i64 pos ∧ Bld.Is w.heap.size w.heap.size v acc wr ∧ Below w.heap.size w wr ∧ Aside0 (quotedFrom a0 fuel pos acc = quotedFrom a0 a0.size 1 []) ∧ a0.size ≤ pos + fuel ∧ acc.length ≤ pos) (fun i _ => a0.size - (intOf i).toNat)
  case atStart =>
    exact ⟨1, a0.size, [], .slice none 0 0, rfl, Bld.Is.fresh w, (Below.refl _ w).alloc (Nat.le_refl _) _, ⟨rfl⟩, by omega, by simp⟩
  case round =>
    obtain ⟨pos, fuel, acc, v, rfl, hI, hbw, hq, hfu, hal⟩ := hrel
    by_cases hp : pos < a0.size
    · have hwd := width_pos a0 pos
      have hwl := width_le a0 pos hp
      have hmf := Aside0.mk (may_f a0 pos hp)
      obtain ⟨f, rfl⟩ : ∃ f, fuel = f + 1 := ⟨fuel - 1, by omega⟩
      have hba : byteAt a0 pos = a0[pos] := get_lt a0 pos hp
      have hsl := slice_at a0 pos (width a0 pos) hwl
      have hsz0 := hbw.size
      have q1 := hq.out
      rw [quotedFrom, if_pos hp] at q1
      clear hq
      have hbl : (a0.extract pos (pos + width a0 pos)).size = width a0 pos := by simp; omega
      by_cases hok : (mayB a0 pos || byteAt a0 pos == 32) = true
      · rw [if_pos hok] at q1
        have q2 := Aside0.mk q1
        clear q1
        -- the rune goes in as_ it stands
        have step : ∀ w1, Below wr.heap.size wr w1 → Calls Tryd.prog 58 #[.pointer (some ⟨w.heap.size, 0, none⟩), .string (a0.extract pos (pos + width a0 pos))] w1 fun e w' => e = .returned (.tuple #[.int .i64 (a0.extract pos (pos + width a0 pos)).size, .nilIface]) ∧ ∃ v', Bld.Is w.heap.size w.heap.size v' (acc ++ bytesAt a0 pos (width a0 pos)) w' ∧ Below w.heap.size w1 w' := by
          intro w1 hb
          have hb' := hb.size
          refine (Bld.writeString w.heap.size w.heap.size v acc _ w1 (hI.below hb) (by rw [hbl]; omega) (by omega)).mono ?_
          rintro e w' ⟨rfl, v', h1, h2, _⟩
          rw [extract_bytes] at h1
          exact ⟨rfl, v', h1, h2⟩
        have hal2 : (acc ++ bytesAt a0 pos (width a0 pos)).length ≤ pos + width a0 pos := by
          rw [List.length_append]
          have : (bytesAt a0 pos (width a0 pos)).length ≤ width a0 pos := List.length_take_le _ _
          omega
        cases hm : mayB a0 pos
        · have h32 : a0[pos] = 32 := by
            rw [hm, Bool.false_or, hba] at hok
            simpa using hok
          have t32 : ((a0[pos].toNat : Int) == 32) = true := by rw [h32]; rfl
          have hmf2 : Aside0 (word_may.f (a0.extract pos a0.size) = some (false, (width a0 pos : Int))) := ⟨by rw [hmf.out, hm]⟩
          clear h32 hm hok hba hmf hbl
          go_wp2_with fail
          refine (word_may.calls _ false (width a0 pos) _ hmf2.out (hT.below hbw)).mono ?_
          rintro e w1 ⟨rfl, hb⟩
          go_wp2_with fail
          refine (step w1 hb).mono ?_
          rintro e w2 ⟨rfl, v', hI2, hb2⟩
          go_wp2
          go_roundw
          case rel => exact ⟨pos + width a0 pos, f, _, v', by simp, hI2, (hbw.trans (hb.mono hsz0)).trans hb2, q2, by omega, hal2⟩
          case measure => simp [intOf]; omega
        · have hmf2 : Aside0 (word_may.f (a0.extract pos a0.size) = some (true, (width a0 pos : Int))) := ⟨by rw [hmf.out, hm]⟩
          clear hm hok hba hmf hbl
          go_wp2_with fail
          refine (word_may.calls _ true (width a0 pos) _ hmf2.out (hT.below hbw)).mono ?_
          rintro e w1 ⟨rfl, hb⟩
          go_wp2_with fail
          refine (step w1 hb).mono ?_
          rintro e w2 ⟨rfl, v', hI2, hb2⟩
          go_wp2
          go_roundw
          case rel => exact ⟨pos + width a0 pos, f, _, v', by simp, hI2, (hbw.trans (hb.mono hsz0)).trans hb2, q2, by omega, hal2⟩
          case measure => simp [intOf]; omega
      · rw [if_neg hok] at q1
        have hm : mayB a0 pos = false := by
          cases h : mayB a0 pos
          · rfl
          · rw [h] at hok; simp at hok
        have h32 : ¬ a0[pos] = 32 := by
          rw [hm, Bool.false_or, hba] at hok
          simpa using hok
        have t32 : ((a0[pos].toNat : Int) == 32) = false := by
          rw [beq_eq_false_iff_ne]
          intro h
          exact h32 (UInt8.toNat_inj.1 (by have : a0[pos].toNat = 32 := by omega
                                           simpa using this))
        have hmf2 : Aside0 (word_may.f (a0.extract pos a0.size) = some (false, (width a0 pos : Int))) := ⟨by rw [hmf.out, hm]⟩
        rw [hba] at q1
        clear h32 hm hok hba hmf hbl hsl
        by_cases h34 : a0[pos] = 34
        · have t34 : ((a0[pos].toNat : Int) == 34) = true := by rw [h34]; rfl
          rw [if_pos h34] at q1
          have q2 := Aside0.mk q1
          clear q1 h34
          go_wp2_with fail
          refine (word_may.calls _ false (width a0 pos) _ hmf2.out (hT.below hbw)).mono ?_
          rintro e w1 ⟨rfl, hb⟩
          go_wp2_with fail
          refine (Bld.string w.heap.size w.heap.size v acc w1 (hI.below hb) (by have := hb.size; omega)).mono ?_
          rintro e w2 ⟨rfl, hb2⟩
          go_wp2
          go_ret3
          refine ⟨ret3 ?_, (hbw.trans (hb.mono hsz0)).trans hb2⟩
          rw [← hr.out, quotedR, ← q2.out]
          simp
        · have t34 : ((a0[pos].toNat : Int) == 34) = false := by
            rw [beq_eq_false_iff_ne]
            intro h
            exact h34 (UInt8.toNat_inj.1 (by have : a0[pos].toNat = 34 := by omega
                                             simpa using this))
          rw [if_neg h34] at q1
          clear h34
          by_cases h92 : a0[pos] = 92
          · have t92 : ((a0[pos].toNat : Int) == 92) = true := by rw [h92]; rfl
            rw [if_pos h92] at q1
            have hes := esc_f a0 (pos + 1)
            clear h92
            cases hE : escB a0 (pos + 1) with
            | none =>
              rw [hE] at q1 hes
              obtain ⟨x, y, hes⟩ := hes
              have hes2 := Aside0.mk hes
              have q2 := Aside0.mk q1
              clear q1 hes hE
              go_wp2_with fail
              refine (word_may.calls _ false (width a0 pos) _ hmf2.out (hT.below hbw)).mono ?_
              rintro e w1 ⟨rfl, hb⟩
              go_wp2_with fail
              refine (word_escaped.calls 9 _ x y false w1 hes2.out).mono ?_
              rintro e w2 ⟨rfl, hb2⟩
              go_wp2
              go_ret3
              refine ⟨ret3 ?_, (hbw.trans (hb.mono hsz0)).trans (hb2.below.mono (by have := hb.size; omega))⟩
              rw [← hr.out, quotedR, ← q2.out]
            | some cn =>
              obtain ⟨c, n⟩ := cn
              rw [hE] at q1 hes
              have hn := escB_le hE
              have hes2 := Aside0.mk hes
              have q2 := Aside0.mk q1
              clear q1 hes hE
              go_wp2_with fail
              refine (word_may.calls _ false (width a0 pos) _ hmf2.out (hT.below hbw)).mono ?_
              rintro e w1 ⟨rfl, hb⟩
              go_wp2_with fail
              refine (word_escaped.calls 9 _ (c.toNat : Int) (n : Int) true w1 hes2.out).mono ?_
              rintro e w2 ⟨rfl, hb2⟩
              have hb3 : Below wr.heap.size wr w2 := hb.trans (hb2.below.mono hb.size)
              go_wp2_with fail
              refine (Bld.writeByte w.heap.size w.heap.size v acc c w2 (hI.below hb3) (by omega) (by have := hb3.size; omega)).mono ?_
              rintro e w3 ⟨rfl, v', hI2, hb4, _⟩
              go_wp2
              go_roundw
              case rel => exact ⟨pos + 1 + n, f, _, v', by simp; omega, hI2, (hbw.trans (hb3.mono hsz0)).trans hb4, q2, by omega, by simp; omega⟩
              case measure => simp [intOf]; omega
          · have t92 : ((a0[pos].toNat : Int) == 92) = false := by
              rw [beq_eq_false_iff_ne]
              intro h
              exact h92 (UInt8.toNat_inj.1 (by have : a0[pos].toNat = 92 := by omega
                                               simpa using this))
            rw [if_neg h92] at q1
            have q2 := Aside0.mk q1
            clear q1 h92
            go_wp2_with fail
            refine (word_may.calls _ false (width a0 pos) _ hmf2.out (hT.below hbw)).mono ?_
            rintro e w1 ⟨rfl, hb⟩
            go_wp2
            go_ret3
            refine ⟨ret3 ?_, hbw.trans (hb.mono hsz0)⟩
            rw [← hr.out, quotedR, ← q2.out]
    · go_wp2
      go_ret3
      refine ⟨ret3 ?_, hbw⟩
      rw [← hr.out, quotedR, ← hq.out, quotedFrom_end _ _ _ _ hp]
end Go.Proofs.YtfaelejeihmgcaaDoor.Wd
end

section
namespace Go.Proofs.YtfaelejeihmgcaaDoor.Wd
open Go.RowKit Go.Proofs.YtfaelejeihmgcaaDoorW.PrintWords Go.Proofs.YtfaelejeihmgcaaDoorW.PrintLast Go.Proofs.YtfaelejeihmgcaaDoorW.PrintMore
attribute [local go_sem] max2_int min2_int max_two min_two max_three min_three max_four min_four   -- for this text's walks alone
set_option linter.unusedVariables false
set_option linter.unusedSimpArgs false
def word_first.l0 : Nat → ByteArray → Int → Option (ByteArray × Int × Bool)
  | 0, _, _ => none
  | k + 1, x0, x5 => if x5 < (x0.size : Int) then (if 0 ≤ x5 then (if x5 ≤ (x0.size : Int) then ((word_may.f (x0.extract (x5 : Int).toNat x0.size)).bind fun bt112 => (if bt112.1 = true then (word_first.l0 k x0 (wrap64 (x5 + bt112.2))) else (some (x0.extract 0 (x5 : Int).toNat, x5, decide (x5 > 0))))) else (none)) else (none)) else (if 0 ≤ x5 then (if x5 ≤ (x0.size : Int) then (some (x0.extract 0 (x5 : Int).toNat, x5, decide (x5 > 0))) else (none)) else (none))
def word_first.f (k : Nat) (a0 : ByteArray) : Option (ByteArray × Int × Bool) := (strings_HasPrefix.f a0 (⟨#[34]⟩ : ByteArray)).bind fun t108 => (if t108 = true then ((word_quoted.f a0).bind fun bt109 => (some (bt109.1, bt109.2.1, bt109.2.2))) else (word_first.l0 k a0 0))
set_option maxHeartbeats 8000000 in
set_option maxRecDepth 100000 in
theorem word_first.calls (k : Nat) (a0 : ByteArray) (r1 : ByteArray) (r2 : Int) (r3 : Bool) (w : World) (h : word_first.f k a0 = some (r1, r2, r3)) (hT : Tabs w) :
    Calls Tryd.prog 52 #[.string a0] w fun e w' => e = .returned (.tuple #[.string r1, .int .i64 r2, .bool r3]) ∧ Below w.heap.size w w' := by
  have HB := Aside0.mk (Below.refl w.heap.size w)
  have H : ((strings_HasPrefix.f a0 (⟨#[34]⟩ : ByteArray)).bind fun t108 => (if t108 = true then ((word_quoted.f a0).bind fun bt109 => (some (bt109.1, bt109.2.1, bt109.2.2))) else (word_first.l0 k a0 0))) = some (r1, r2, r3) := h
  clear h
  replace H := Option.bind_eq_some_iff.mp H
  obtain ⟨t108, A20, H⟩ := H
  replace H : (if t108 = true then ((word_quoted.f a0).bind fun bt109 => (some (bt109.1, bt109.2.1, bt109.2.2))) else (word_first.l0 k a0 0)) = some (r1, r2, r3) := H
  have A2 := Aside0.mk A20
  clear A20
  by_cases c3 : t108 = true
  · subst c3
    have H1 : ((word_quoted.f a0).bind fun bt109 => (some (bt109.1, bt109.2.1, bt109.2.2))) = some (r1, r2, r3) := by rw [if_pos rfl] at H; exact H
    clear H
    have H := H1
    clear H1
    replace H := Option.bind_eq_some_iff.mp H
    obtain ⟨⟨t109, t110, t111⟩, A40, H⟩ := H
    replace H : (some (t109, t110, t111)) = some (r1, r2, r3) := H
    have A4 := Aside0.mk A40
    clear A40
    simp only [Option.some.injEq, Prod.mk.injEq] at H
    obtain ⟨rfl, rfl, rfl⟩ := H
    go_enter Tryd.func52, Tryd.ntmps52
    go_wp2_with (first | ((with_reducible refine gate_callee (f := 90) rfl ?_); refine goesL_ (some 9) rfl rfl Tryd.func90 (by kernel_rfl) rfl #[.string a0, .string (⟨#[34]⟩ : ByteArray)] rfl (by (try simp only [List.map_toArray, List.map_cons, List.map_nil]); first | done | rfl | (simp only [List.length_drop, List.length_take]; rfl)) ?_; (with_reducible refine (strings_HasPrefix.calls a0 (⟨#[34]⟩ : ByteArray) true _ A2.out).mono ?_); rintro e w' ⟨rfl, ⟨nd, rfl⟩⟩; refine ⟨_, rfl, ?_⟩) | ((with_reducible refine gate_callee (f := 91) rfl ?_); refine goesL_ (some 11) rfl rfl Tryd.func91 (by kernel_rfl) rfl #[.string a0] rfl (by (try simp only [List.map_toArray, List.map_cons, List.map_nil]); first | done | rfl | (simp only [List.length_drop, List.length_take]; rfl)) ?_; (with_reducible refine (word_quoted.calls a0 t109 t110 t111 _ A4.out (by first | exact hT | (refine Tabs.below hT ?_; (repeat (first | (with_reducible first | exact HB.out | exact Below.refl _ _ | apply below_alloc | apply pw_below_drewN | apply below_drew1) | exact HB.out))))).mono ?_); rintro e w5 ⟨rfl, hb⟩; refine ⟨_, rfl, ?_⟩; have n0_ := Aside0.mk (below_step (by repeat (first | (with_reducible first | exact HB.out | apply below_alloc | apply pw_below_drewN | apply below_drew1) | exact HB.out)) hb); clear HB; have HB := n0_; clear n0_; (try clear hb); (try clear hb2); (try clear hk); (try clear hi)))
    go_ret3
    exact ⟨by first | rfl | (simp [errW_none, errW_some] <;> rfl) | (simp [*, errW_none, errW_some] <;> rfl), by repeat (first | (with_reducible first | exact HB.out | apply below_alloc | apply pw_below_drewN | apply below_drew1) | exact HB.out)⟩
  · replace c3 := Bool.eq_false_iff.mpr c3
    subst c3
    have H1 : (word_first.l0 k a0 0) = some (r1, r2, r3) := by rw [if_neg (show ¬ (false = true) by decide)] at H; exact H
    clear H
    have H := H1
    clear H1
    have H' := Aside0.mk H
    clear H
    go_enter Tryd.func52, Tryd.ntmps52
    go_wp2_with (first | ((with_reducible refine gate_callee (f := 90) rfl ?_); refine goesL_ (some 9) rfl rfl Tryd.func90 (by kernel_rfl) rfl #[.string a0, .string (⟨#[34]⟩ : ByteArray)] rfl (by (try simp only [List.map_toArray, List.map_cons, List.map_nil]); first | done | rfl | (simp only [List.length_drop, List.length_take]; rfl)) ?_; (with_reducible refine (strings_HasPrefix.calls a0 (⟨#[34]⟩ : ByteArray) false _ A2.out).mono ?_); rintro e w' ⟨rfl, ⟨nd, rfl⟩⟩; refine ⟨_, rfl, ?_⟩))
    go_loopg [5] k (fun kq v5 w' => ∃ (x5_1 : Int), v5 = .int .i64 x5_1 ∧ Aside0 (word_first.l0 kq a0 x5_1 = some (r1, r2, r3)) ∧ Aside0 (kq ≤ k) ∧ Aside0 (Below w.heap.size w w'))
    case atStart => exact ⟨(0), (by first | rfl | (simp; done) | (simp [*]; done)), H', ⟨Nat.le_refl _⟩, ⟨by repeat (first | (with_reducible first | exact HB.out | apply below_alloc | apply pw_below_drewN | apply below_drew1) | exact HB.out)⟩⟩
    case round =>
      clear H'
      try clear p2
      try clear c3
      try clear c5
      obtain ⟨x5_1, rfl, HA, HK1, HB⟩ := hrel
      cases gk with
      | zero => exact absurd HA.out (by simp [word_first.l0])
      | succ k1 =>
        have H := HA.out
        clear HA
        simp only [word_first.l0] at H
        by_cases c6 : x5_1 < (a0.size : Int)
        · rw [if_pos c6] at H
          have c6b0 : decide (x5_1 < (a0.size : Int)) = true := decide_eq_true c6
          clear c6
          by_cases c7 : 0 ≤ x5_1
          · rw [if_pos c7] at H
            have c7b0 := eq_true c7
            have c7b1 : decide (0 ≤ x5_1) = true := decide_eq_true c7
            clear c7
            by_cases c8 : x5_1 ≤ (a0.size : Int)
            · rw [if_pos c8] at H
              have c8b0 := eq_true c8
              have c8b1 : decide (x5_1 ≤ (a0.size : Int)) = true := decide_eq_true c8
              clear c8
              replace H := Option.bind_eq_some_iff.mp H
              obtain ⟨⟨t112, t113⟩, A90, H⟩ := H
              replace H : (if t112 = true then (word_first.l0 k1 a0 (wrap64 (x5_1 + t113))) else (some (a0.extract 0 (x5_1 : Int).toNat, x5_1, decide (x5_1 > 0)))) = some (r1, r2, r3) := H
              have A9 := Aside0.mk A90
              clear A90
              by_cases c10 : t112 = true
              · subst c10
                have H1 : (word_first.l0 k1 a0 (wrap64 (x5_1 + t113))) = some (r1, r2, r3) := by rw [if_pos rfl] at H; exact H
                clear H
                have H := H1
                clear H1
                have H' := Aside0.mk H
                clear H
                go_wp2_with (first | ((with_reducible refine gate_callee (f := 57) rfl ?_); refine goesL_ (some 23) rfl rfl Tryd.func57 (by kernel_rfl) rfl #[.string (a0.extract (x5_1 : Int).toNat a0.size)] rfl (by (try simp only [List.map_toArray, List.map_cons, List.map_nil]); first | done | rfl | (simp only [List.length_drop, List.length_take]; rfl)) ?_; (with_reducible refine (word_may.calls (a0.extract (x5_1 : Int).toNat a0.size) true t113 _ A9.out (by first | exact hT | (refine Tabs.below hT ?_; (repeat (first | (with_reducible first | exact HB.out | exact Below.refl _ _ | apply below_alloc | apply pw_below_drewN | apply below_drew1) | exact HB.out))))).mono ?_); rintro e w11 ⟨rfl, hb⟩; refine ⟨_, rfl, ?_⟩; have n0_ := Aside0.mk (below_step (by repeat (first | (with_reducible first | exact HB.out | apply below_alloc | apply pw_below_drewN | apply below_drew1) | exact HB.out)) hb); clear HB; have HB := n0_; clear n0_; (try clear hb); (try clear hb2); (try clear hk); (try clear hi)))
                go_roundg k1
                case measure => have := HK1.out; omega
                case rel => exact ⟨(wrap64 (x5_1 + t113)), (by first | rfl | (simp; done) | (simp [*]; done)), H', ⟨by have := HK1.out; omega⟩, ⟨by repeat (first | (with_reducible first | exact HB.out | apply below_alloc | apply pw_below_drewN | apply below_drew1) | exact HB.out)⟩⟩
              · replace c10 := Bool.eq_false_iff.mpr c10
                subst c10
                have H1 : (some (a0.extract 0 (x5_1 : Int).toNat, x5_1, decide (x5_1 > 0))) = some (r1, r2, r3) := by rw [if_neg (show ¬ (false = true) by decide)] at H; exact H
                clear H
                have H := H1
                clear H1
                have c12b0 := eq_true (of_decide_eq_true (by first | (with_reducible assumption) | assumption) : 0 ≤ x5_1)
                have c13b0 := eq_true (of_decide_eq_true (by first | (with_reducible assumption) | assumption) : x5_1 ≤ (a0.size : Int))
                simp only [Option.some.injEq, Prod.mk.injEq] at H
                obtain ⟨rfl, rfl, rfl⟩ := H
                go_wp2_with (first | ((with_reducible refine gate_callee (f := 57) rfl ?_); refine goesL_ (some 23) rfl rfl Tryd.func57 (by kernel_rfl) rfl #[.string (a0.extract (x5_1 : Int).toNat a0.size)] rfl (by (try simp only [List.map_toArray, List.map_cons, List.map_nil]); first | done | rfl | (simp only [List.length_drop, List.length_take]; rfl)) ?_; (with_reducible refine (word_may.calls (a0.extract (x5_1 : Int).toNat a0.size) false t113 _ A9.out (by first | exact hT | (refine Tabs.below hT ?_; (repeat (first | (with_reducible first | exact HB.out | exact Below.refl _ _ | apply below_alloc | apply pw_below_drewN | apply below_drew1) | exact HB.out))))).mono ?_); rintro e w14 ⟨rfl, hb⟩; refine ⟨_, rfl, ?_⟩; have n0_ := Aside0.mk (below_step (by repeat (first | (with_reducible first | exact HB.out | apply below_alloc | apply pw_below_drewN | apply below_drew1) | exact HB.out)) hb); clear HB; have HB := n0_; clear n0_; (try clear hb); (try clear hb2); (try clear hk); (try clear hi)))
                go_ret3
                exact ⟨by first | rfl | (simp [errW_none, errW_some] <;> rfl) | (simp [*, errW_none, errW_some] <;> rfl), by repeat (first | (with_reducible first | exact HB.out | apply below_alloc | apply pw_below_drewN | apply below_drew1) | exact HB.out)⟩
            · rw [if_neg c8] at H
              exact absurd H (by simp)
          · rw [if_neg c7] at H
            exact absurd H (by simp)
        · rw [if_neg c6] at H
          have c6b0 : decide (x5_1 < (a0.size : Int)) = false := decide_eq_false c6
          clear c6
          by_cases c15 : 0 ≤ x5_1
          · rw [if_pos c15] at H
            have c15b0 := eq_true c15
            have c15b1 : decide (0 ≤ x5_1) = true := decide_eq_true c15
            clear c15
            by_cases c16 : x5_1 ≤ (a0.size : Int)
            · rw [if_pos c16] at H
              have c16b0 := eq_true c16
              have c16b1 : decide (x5_1 ≤ (a0.size : Int)) = true := decide_eq_true c16
              clear c16
              simp only [Option.some.injEq, Prod.mk.injEq] at H
              obtain ⟨rfl, rfl, rfl⟩ := H
              go_wp2
              go_ret3
              exact ⟨by first | rfl | (simp [errW_none, errW_some] <;> rfl) | (simp [*, errW_none, errW_some] <;> rfl), by repeat (first | (with_reducible first | exact HB.out | apply below_alloc | apply pw_below_drewN | apply below_drew1) | exact HB.out)⟩
            · rw [if_neg c16] at H
              exact absurd H (by simp)
          · rw [if_neg c15] at H
            exact absurd H (by simp)
def word_Split.l0 : Nat → ByteArray → List ByteArray → Option (List ByteArray × Int)
  | 0, _, _ => none
  | k + 1, x0, x4 => (word_first.f k x0).bind fun bt114 => (if bt114.2.2 = true then (if x4.length < 8796093022208 then ((some (x4 ++ [bt114.1] : List ByteArray)).bind fun y117 => (if bt114.2.1 = (x0.size : Int) then (some (y117, 0)) else (if 0 ≤ bt114.2.1 then (if bt114.2.1 < (x0.size : Int) then (if (bt x0 bt114.2.1) = 32 then (if 0 ≤ (wrap64 (bt114.2.1 + 1)) then (if (wrap64 (bt114.2.1 + 1)) ≤ (x0.size : Int) then (word_Split.l0 k (x0.extract ((wrap64 (bt114.2.1 + 1)) : Int).toNat x0.size) y117) else (none)) else (none)) else (some (([] : List ByteArray), 2))) else (none)) else (none)))) else (none)) else (some (([] : List ByteArray), 2)))
def word_Split.f (k : Nat) (a0 : ByteArray) : Option (List ByteArray × Int) := if a0.toList = ([] : List UInt8) then (some (([] : List ByteArray), 0)) else (word_Split.l0 k a0 ([] : List ByteArray))
set_option maxHeartbeats 8000000 in
set_option maxRecDepth 100000 in
theorem word_Split.calls (k : Nat) (a0 : ByteArray) (r1 : List ByteArray) (r2 : Int) (w : World) (h : word_Split.f k a0 = some (r1, r2)) (hT : Tabs w) :
    Calls Tryd.prog 19 #[.string a0] w fun e w' => ∃ v0_ : Value, e = .returned (.tuple #[v0_, .int .i64 r2]) ∧ Kd.R Kd.string 9 w' w.heap.size (fun _ => True) v0_ r1 ∧ Below w.heap.size w w' := by
  have HB := Aside0.mk (Below.refl w.heap.size w)
  have H : (if a0.toList = ([] : List UInt8) then (some (([] : List ByteArray), 0)) else (word_Split.l0 k a0 ([] : List ByteArray))) = some (r1, r2) := h
  clear h
  by_cases c2 : a0.toList = ([] : List UInt8)
  · rw [if_pos c2] at H
    have c2b0 : (a0.toList == ([] : List UInt8)) = true := beq_iff_eq.mpr c2
    have c2b1 : (a0.toList != ([] : List UInt8)) = false := bne_eq_false_iff_eq.mpr c2
    clear c2
    simp only [Option.some.injEq, Prod.mk.injEq] at H
    obtain ⟨rfl, rfl⟩ := H
    go_enter Tryd.func19, Tryd.ntmps19
    go_wp2
    go_ret2
    exact ⟨_, by first | rfl | (simp [errW_none, errW_some] <;> rfl) | (simp [*, errW_none, errW_some] <;> rfl), by first | exact Kd.R_nil _ _ _ _ _ | exact Kd.N_nil _ _ _ _ _ | exact Kd.V_nil _ _ _ _ _ | exact Kd.Q_nil _ _ _ _ _ | exact Kd.S_nil _ _ _ _ _, by repeat (first | (with_reducible first | exact HB.out | apply below_alloc | apply pw_below_drewN | apply below_drew1) | exact HB.out)⟩
  · rw [if_neg c2] at H
    have c2b0 : (a0.toList == ([] : List UInt8)) = false := beq_eq_false_iff_ne.mpr c2
    have c2b1 : (a0.toList != ([] : List UInt8)) = true := bne_iff_ne.mpr c2
    have H' := Aside0.mk H
    clear H
    go_enter Tryd.func19, Tryd.ntmps19
    go_wp2
    go_loopg [0, 4] k (fun kq v0 v4 w' => ∃ (x0_1 : ByteArray) (x4_1 : List ByteArray), v0 = .string x0_1 ∧ Aside0 (word_Split.l0 kq x0_1 x4_1 = some (r1, r2)) ∧ Aside0 (kq ≤ k) ∧ Aside0 (Kd.R Kd.string 9 w' w.heap.size (fun _ => True) v4 x4_1) ∧ Aside0 (Below w.heap.size w w'))
    case atStart => exact ⟨(a0), (([] : List ByteArray)), (by first | rfl | (simp; done) | (simp [*]; done)), H', ⟨Nat.le_refl _⟩, ⟨by first | exact Kd.R_nil _ _ _ _ _ | exact Kd.N_nil _ _ _ _ _ | exact Kd.V_nil _ _ _ _ _ | exact Kd.Q_nil _ _ _ _ _ | exact Kd.S_nil _ _ _ _ _⟩, ⟨by repeat (first | (with_reducible first | exact HB.out | apply below_alloc | apply pw_below_drewN | apply below_drew1) | exact HB.out)⟩⟩
    case round =>
      clear H'
      try clear c1
      try clear c2
      try clear c2b0
      try clear c2b1
      try clear p2
      obtain ⟨x0_1, x4_1, rfl, HA, HK1, HO_4, HB⟩ := hrel
      cases gk with
      | zero => exact absurd HA.out (by simp [word_Split.l0])
      | succ k1 =>
        have H := HA.out
        clear HA
        simp only [word_Split.l0] at H
        replace H := Option.bind_eq_some_iff.mp H
        obtain ⟨⟨t114, t115, t116⟩, A30, H⟩ := H
        replace H : (if t116 = true then (if x4_1.length < 8796093022208 then ((some (x4_1 ++ [t114] : List ByteArray)).bind fun y117 => (if t115 = (x0_1.size : Int) then (some (y117, 0)) else (if 0 ≤ t115 then (if t115 < (x0_1.size : Int) then (if (bt x0_1 t115) = 32 then (if 0 ≤ (wrap64 (t115 + 1)) then (if (wrap64 (t115 + 1)) ≤ (x0_1.size : Int) then (word_Split.l0 k1 (x0_1.extract ((wrap64 (t115 + 1)) : Int).toNat x0_1.size) y117) else (none)) else (none)) else (some (([] : List ByteArray), 2))) else (none)) else (none)))) else (none)) else (some (([] : List ByteArray), 2))) = some (r1, r2) := H
        have A3 := Aside0.mk A30
        clear A30
        by_cases c4 : t116 = true
        · subst c4
          have H1 : (if x4_1.length < 8796093022208 then ((some (x4_1 ++ [t114] : List ByteArray)).bind fun y117 => (if t115 = (x0_1.size : Int) then (some (y117, 0)) else (if 0 ≤ t115 then (if t115 < (x0_1.size : Int) then (if (bt x0_1 t115) = 32 then (if 0 ≤ (wrap64 (t115 + 1)) then (if (wrap64 (t115 + 1)) ≤ (x0_1.size : Int) then (word_Split.l0 k1 (x0_1.extract ((wrap64 (t115 + 1)) : Int).toNat x0_1.size) y117) else (none)) else (none)) else (some (([] : List ByteArray), 2))) else (none)) else (none)))) else (none)) = some (r1, r2) := by rw [if_pos rfl] at H; exact H
          clear H
          have H := H1
          clear H1
          by_cases c5 : x4_1.length < 8796093022208
          · rw [if_pos c5] at H
            have LMc5 := Aside0.mk c5
            clear c5
            obtain ⟨y117, hy117⟩ : ∃ y_ : List ByteArray, y_ = (x4_1 ++ [t114]) := ⟨_, rfl⟩
            replace H : (if t115 = (x0_1.size : Int) then (some (y117, 0)) else (if 0 ≤ t115 then (if t115 < (x0_1.size : Int) then (if (bt x0_1 t115) = 32 then (if 0 ≤ (wrap64 (t115 + 1)) then (if (wrap64 (t115 + 1)) ≤ (x0_1.size : Int) then (word_Split.l0 k1 (x0_1.extract ((wrap64 (t115 + 1)) : Int).toNat x0_1.size) y117) else (none)) else (none)) else (some (([] : List ByteArray), 2))) else (none)) else (none))) = some (r1, r2) := by first | (rw [hy117]; with_reducible exact H) | (have H2_ := (Option.bind_some _ _).symm.trans H; rw [hy117]; with_reducible exact H2_) | (have H2_ := (Option.bind_some _ _).symm.trans H; with_reducible exact H2_) | with_reducible exact H | (rw [hy117]; exact H) | exact H
            have Ny117 := Aside0.mk hy117
            clear hy117
            by_cases c6 : t115 = (x0_1.size : Int)
            · rw [if_pos c6] at H
              have c6b0 : (t115 == (x0_1.size : Int)) = true := beq_iff_eq.mpr c6
              have c6b1 : (t115 != (x0_1.size : Int)) = false := bne_eq_false_iff_eq.mpr c6
              clear c6
              simp only [Option.some.injEq, Prod.mk.injEq] at H
              obtain ⟨rfl, rfl⟩ := H
              go_wp2_with (first | ((with_reducible refine gate_callee (f := 52) rfl ?_); refine goesL_ (some 12) rfl rfl Tryd.func52 (by kernel_rfl) rfl #[.string x0_1] rfl (by (try simp only [List.map_toArray, List.map_cons, List.map_nil]); first | done | rfl | (simp only [List.length_drop, List.length_take]; rfl)) ?_; (with_reducible refine (word_first.calls k1 x0_1 t114 t115 true _ A3.out (by first | exact hT | (refine Tabs.below hT ?_; (repeat (first | (with_reducible first | exact HB.out | exact Below.refl _ _ | apply below_alloc | apply pw_below_drewN | apply below_drew1) | exact HB.out))))).mono ?_); rintro e w7 ⟨rfl, hb⟩; refine ⟨_, rfl, ?_⟩; have n0_ := Aside0.mk (Kd.R_below (by (with_reducible repeat (first | apply Kd.R_alloc | apply Kd.R_drewN | apply Kd.R_drew)); exact HO_4.out) hb); have n1_ := Aside0.mk (below_step (by repeat (first | (with_reducible first | exact HB.out | apply below_alloc | apply pw_below_drewN | apply below_drew1) | exact HB.out)) hb); clear HO_4; clear HB; have HO_4 := n0_; have HB := n1_; clear n0_ n1_; (try clear hb); (try clear hb2); (try clear hk); (try clear hi)) | ((with_reducible refine gate_builtin (b := .append) (xs := #[.tmp 18, .tmp 20]) rfl ?_); at_builtin; refine Kd.R_append Kd.string (w0 := w) w.heap.size rfl (.tmp 18) (.tmp 20) 22 9 (.string ⟨#[]⟩) 16 rfl Tryd.underlying22 info9 rfl (by decide) (by omega) u4 x4_1 t114 [.string t114] (fun _ => True) (fun _ => False) rfl rfl ?aP (fun _ hk => hk.elim) ?aF ?aO ?aB ?aS ?aL ?_; (case aP => exact rfl); (case aB => exact (by repeat (first | (with_reducible first | exact HB.out | apply below_alloc | apply pw_below_drewN | apply below_drew1) | exact HB.out))); (case aF => exact (fun _ _ => trivial)); (case aO => exact (by (with_reducible repeat (first | apply Kd.R_alloc | apply Kd.R_drewN | apply Kd.R_drew)); exact HO_4.out)); (case aS => exact (below_size (by repeat (first | (with_reducible first | exact HB.out | apply below_alloc | apply pw_below_drewN | apply below_drew1) | exact HB.out)))); (case aL => have := LMc5.out; omega); intro v118 w8 ho hb hg hat; rw [← Ny117.out] at ho; have n0_ := Aside0.mk (hb); have n1_ := Aside0.mk (ho); clear HB; clear HO_4; have HB := n0_; have HO119 := n1_; clear n0_ n1_; clear ho hb hg hat))
              go_ret2
              exact ⟨_, by first | rfl | (simp [errW_none, errW_some] <;> rfl) | (simp [*, errW_none, errW_some] <;> rfl), by (with_reducible repeat (first | apply Kd.R_alloc | apply Kd.R_drewN | apply Kd.R_drew)); exact HO119.out, by repeat (first | (with_reducible first | exact HB.out | apply below_alloc | apply pw_below_drewN | apply below_drew1) | exact HB.out)⟩
            · rw [if_neg c6] at H
              have c6b0 : (t115 == (x0_1.size : Int)) = false := beq_eq_false_iff_ne.mpr c6
              have c6b1 : (t115 != (x0_1.size : Int)) = true := bne_iff_ne.mpr c6
              by_cases c9 : 0 ≤ t115
              · rw [if_pos c9] at H
                have c9b0 : decide (0 ≤ t115) = true := decide_eq_true c9
                clear c9
                by_cases c10 : t115 < (x0_1.size : Int)
                · rw [if_pos c10] at H
                  have c10b0 : decide (t115 < (x0_1.size : Int)) = true := decide_eq_true c10
                  clear c10
                  by_cases c12 : (bt x0_1 t115) = 32
                  · rw [if_pos c12] at H
                    have c12b0 : ((bt x0_1 t115) == 32) = true := beq_iff_eq.mpr c12
                    have c12b1 : ((bt x0_1 t115) != 32) = false := bne_eq_false_iff_eq.mpr c12
                    clear c12
                    obtain ⟨ji13, hji13⟩ : ∃ j_ : Int, (wrap64 (t115 + 1)) = j_ := ⟨_, rfl⟩
                    replace H : (if 0 ≤ (ji13) then (if (ji13) ≤ (x0_1.size : Int) then (word_Split.l0 k1 (x0_1.extract ((ji13) : Int).toNat x0_1.size) y117) else (none)) else (none)) = some (r1, r2) := by first | (rw [hji13] at H; exact H) | (simp only [hji13] at H ⊢; exact H)
                    (try rw [hji13] at A3)
                    have hji13w : (IntKind.i64.wrap (t115 + 1)) = ji13 := (i64_w _).trans hji13
                    by_cases c14 : 0 ≤ (ji13)
                    · rw [if_pos c14] at H
                      have c14b0 := eq_true c14
                      have c14b1 : decide (0 ≤ (ji13)) = true := decide_eq_true c14
                      clear c14
                      by_cases c15 : (ji13) ≤ (x0_1.size : Int)
                      · rw [if_pos c15] at H
                        have c15b0 := eq_true c15
                        have c15b1 : decide ((ji13) ≤ (x0_1.size : Int)) = true := decide_eq_true c15
                        clear c15
                        have H' := Aside0.mk H
                        clear H
                        go_wp2_with (first | ((with_reducible refine gate_callee (f := 52) rfl ?_); refine goesL_ (some 12) rfl rfl Tryd.func52 (by kernel_rfl) rfl #[.string x0_1] rfl (by (try simp only [List.map_toArray, List.map_cons, List.map_nil]); first | done | rfl | (simp only [List.length_drop, List.length_take]; rfl)) ?_; (with_reducible refine (word_first.calls k1 x0_1 t114 t115 true _ A3.out (by first | exact hT | (refine Tabs.below hT ?_; (repeat (first | (with_reducible first | exact HB.out | exact Below.refl _ _ | apply below_alloc | apply pw_below_drewN | apply below_drew1) | exact HB.out))))).mono ?_); rintro e w16 ⟨rfl, hb⟩; refine ⟨_, rfl, ?_⟩; have n0_ := Aside0.mk (Kd.R_below (by (with_reducible repeat (first | apply Kd.R_alloc | apply Kd.R_drewN | apply Kd.R_drew)); exact HO_4.out) hb); have n1_ := Aside0.mk (below_step (by repeat (first | (with_reducible first | exact HB.out | apply below_alloc | apply pw_below_drewN | apply below_drew1) | exact HB.out)) hb); clear HO_4; clear HB; have HO_4 := n0_; have HB := n1_; clear n0_ n1_; (try clear hb); (try clear hb2); (try clear hk); (try clear hi)) | ((with_reducible refine gate_builtin (b := .append) (xs := #[.tmp 18, .tmp 20]) rfl ?_); at_builtin; refine Kd.R_append Kd.string (w0 := w) w.heap.size rfl (.tmp 18) (.tmp 20) 22 9 (.string ⟨#[]⟩) 16 rfl Tryd.underlying22 info9 rfl (by decide) (by omega) u4 x4_1 t114 [.string t114] (fun _ => True) (fun _ => False) rfl rfl ?aP (fun _ hk => hk.elim) ?aF ?aO ?aB ?aS ?aL ?_; (case aP => exact rfl); (case aB => exact (by repeat (first | (with_reducible first | exact HB.out | apply below_alloc | apply pw_below_drewN | apply below_drew1) | exact HB.out))); (case aF => exact (fun _ _ => trivial)); (case aO => exact (by (with_reducible repeat (first | apply Kd.R_alloc | apply Kd.R_drewN | apply Kd.R_drew)); exact HO_4.out)); (case aS => exact (below_size (by repeat (first | (with_reducible first | exact HB.out | apply below_alloc | apply pw_below_drewN | apply below_drew1) | exact HB.out)))); (case aL => have := LMc5.out; omega); intro v118 w17 ho hb hg hat; rw [← Ny117.out] at ho; have n0_ := Aside0.mk (hb); have n1_ := Aside0.mk (ho); clear HB; clear HO_4; have HB := n0_; have HO119 := n1_; clear n0_ n1_; clear ho hb hg hat; have p11 : 0 ≤ (t115 : Int) := of_decide_eq_true (by first | (with_reducible assumption) | assumption); have q11 : t115 < (x0_1.size : Int) := of_decide_eq_true (by first | (with_reducible assumption) | assumption); have hx11 := bt_at x0_1 t115; replace p11 := eq_true p11; replace q11 := eq_true q11))
                        go_roundg k1
                        case measure => have := HK1.out; omega
                        case rel => exact ⟨(x0_1.extract ((ji13) : Int).toNat x0_1.size), (y117), (by first | rfl | (simp; done) | (simp only [← hji13] <;> (first | rfl | simp)) | (simp [*]; done)), H', ⟨by have := HK1.out; omega⟩, ⟨by (with_reducible repeat (first | apply Kd.R_alloc | apply Kd.R_drewN | apply Kd.R_drew)); exact HO119.out⟩, ⟨by repeat (first | (with_reducible first | exact HB.out | apply below_alloc | apply pw_below_drewN | apply below_drew1) | exact HB.out)⟩⟩
                      · rw [if_neg c15] at H
                        exact absurd H (by simp)
                    · rw [if_neg c14] at H
                      exact absurd H (by simp)
                  · rw [if_neg c12] at H
                    have c12b0 : ((bt x0_1 t115) == 32) = false := beq_eq_false_iff_ne.mpr c12
                    have c12b1 : ((bt x0_1 t115) != 32) = true := bne_iff_ne.mpr c12
                    simp only [Option.some.injEq, Prod.mk.injEq] at H
                    obtain ⟨rfl, rfl⟩ := H
                    go_wp2_with (first | ((with_reducible refine gate_callee (f := 52) rfl ?_); refine goesL_ (some 12) rfl rfl Tryd.func52 (by kernel_rfl) rfl #[.string x0_1] rfl (by (try simp only [List.map_toArray, List.map_cons, List.map_nil]); first | done | rfl | (simp only [List.length_drop, List.length_take]; rfl)) ?_; (with_reducible refine (word_first.calls k1 x0_1 t114 t115 true _ A3.out (by first | exact hT | (refine Tabs.below hT ?_; (repeat (first | (with_reducible first | exact HB.out | exact Below.refl _ _ | apply below_alloc | apply pw_below_drewN | apply below_drew1) | exact HB.out))))).mono ?_); rintro e w18 ⟨rfl, hb⟩; refine ⟨_, rfl, ?_⟩; have n0_ := Aside0.mk (Kd.R_below (by (with_reducible repeat (first | apply Kd.R_alloc | apply Kd.R_drewN | apply Kd.R_drew)); exact HO_4.out) hb); have n1_ := Aside0.mk (below_step (by repeat (first | (with_reducible first | exact HB.out | apply below_alloc | apply pw_below_drewN | apply below_drew1) | exact HB.out)) hb); clear HO_4; clear HB; have HO_4 := n0_; have HB := n1_; clear n0_ n1_; (try clear hb); (try clear hb2); (try clear hk); (try clear hi)) | ((with_reducible refine gate_builtin (b := .append) (xs := #[.tmp 18, .tmp 20]) rfl ?_); at_builtin; refine Kd.R_append Kd.string (w0 := w) w.heap.size rfl (.tmp 18) (.tmp 20) 22 9 (.string ⟨#[]⟩) 16 rfl Tryd.underlying22 info9 rfl (by decide) (by omega) u4 x4_1 t114 [.string t114] (fun _ => True) (fun _ => False) rfl rfl ?aP (fun _ hk => hk.elim) ?aF ?aO ?aB ?aS ?aL ?_; (case aP => exact rfl); (case aB => exact (by repeat (first | (with_reducible first | exact HB.out | apply below_alloc | apply pw_below_drewN | apply below_drew1) | exact HB.out))); (case aF => exact (fun _ _ => trivial)); (case aO => exact (by (with_reducible repeat (first | apply Kd.R_alloc | apply Kd.R_drewN | apply Kd.R_drew)); exact HO_4.out)); (case aS => exact (below_size (by repeat (first | (with_reducible first | exact HB.out | apply below_alloc | apply pw_below_drewN | apply below_drew1) | exact HB.out)))); (case aL => have := LMc5.out; omega); intro v118 w19 ho hb hg hat; rw [← Ny117.out] at ho; have n0_ := Aside0.mk (hb); have n1_ := Aside0.mk (ho); clear HB; clear HO_4; have HB := n0_; have HO119 := n1_; clear n0_ n1_; clear ho hb hg hat; have p11 : 0 ≤ (t115 : Int) := of_decide_eq_true (by first | (with_reducible assumption) | assumption); have q11 : t115 < (x0_1.size : Int) := of_decide_eq_true (by first | (with_reducible assumption) | assumption); have hx11 := bt_at x0_1 t115; replace p11 := eq_true p11; replace q11 := eq_true q11))
                    go_ret2
                    exact ⟨_, by first | rfl | (simp [errW_none, errW_some] <;> rfl) | (simp [*, errW_none, errW_some] <;> rfl), by first | exact Kd.R_nil _ _ _ _ _ | exact Kd.N_nil _ _ _ _ _ | exact Kd.V_nil _ _ _ _ _ | exact Kd.Q_nil _ _ _ _ _ | exact Kd.S_nil _ _ _ _ _, by repeat (first | (with_reducible first | exact HB.out | apply below_alloc | apply pw_below_drewN | apply below_drew1) | exact HB.out)⟩
                · rw [if_neg c10] at H
                  exact absurd H (by simp)
              · rw [if_neg c9] at H
                exact absurd H (by simp)
          · rw [if_neg c5] at H
            exact absurd H (by simp)
        · replace c4 := Bool.eq_false_iff.mpr c4
          subst c4
          have H1 : (some (([] : List ByteArray), 2)) = some (r1, r2) := by rw [if_neg (show ¬ (false = true) by decide)] at H; exact H
          clear H
          have H := H1
          clear H1
          simp only [Option.some.injEq, Prod.mk.injEq] at H
          obtain ⟨rfl, rfl⟩ := H
          go_wp2_with (first | ((with_reducible refine gate_callee (f := 52) rfl ?_); refine goesL_ (some 12) rfl rfl Tryd.func52 (by kernel_rfl) rfl #[.string x0_1] rfl (by (try simp only [List.map_toArray, List.map_cons, List.map_nil]); first | done | rfl | (simp only [List.length_drop, List.length_take]; rfl)) ?_; (with_reducible refine (word_first.calls k1 x0_1 t114 t115 false _ A3.out (by first | exact hT | (refine Tabs.below hT ?_; (repeat (first | (with_reducible first | exact HB.out | exact Below.refl _ _ | apply below_alloc | apply pw_below_drewN | apply below_drew1) | exact HB.out))))).mono ?_); rintro e w20 ⟨rfl, hb⟩; refine ⟨_, rfl, ?_⟩; have n0_ := Aside0.mk (Kd.R_below (by (with_reducible repeat (first | apply Kd.R_alloc | apply Kd.R_drewN | apply Kd.R_drew)); exact HO_4.out) hb); have n1_ := Aside0.mk (below_step (by repeat (first | (with_reducible first | exact HB.out | apply below_alloc | apply pw_below_drewN | apply below_drew1) | exact HB.out)) hb); clear HO_4; clear HB; have HO_4 := n0_; have HB := n1_; clear n0_ n1_; (try clear hb); (try clear hb2); (try clear hk); (try clear hi)))
          go_ret2
          exact ⟨_, by first | rfl | (simp [errW_none, errW_some] <;> rfl) | (simp [*, errW_none, errW_some] <;> rfl), by first | exact Kd.R_nil _ _ _ _ _ | exact Kd.N_nil _ _ _ _ _ | exact Kd.V_nil _ _ _ _ _ | exact Kd.Q_nil _ _ _ _ _ | exact Kd.S_nil _ _ _ _ _, by repeat (first | (with_reducible first | exact HB.out | apply below_alloc | apply pw_below_drewN | apply below_drew1) | exact HB.out)⟩
def cachepotref1_follows.f (a0 : ByteArray) (a1 : Int) (a2 : Int) (a3 : Int) : Option (Bool) := if a1 < (a0.size : Int) then (if 0 ≤ a1 then (if (bt a0 a1) ≥ a2 then (some (decide ((bt a0 a1) ≤ a3))) else (some false)) else (none)) else (some false)
set_option maxHeartbeats 8000000 in
set_option maxRecDepth 100000 in
theorem cachepotref1_follows.calls (a0 : ByteArray) (a1 : Int) (a2 : Int) (a3 : Int) (r : Bool) (w : World) (h : cachepotref1_follows.f a0 a1 a2 a3 = some r) :
    Calls Tryd.prog 95 #[.string a0, .int .i64 a1, .int .u8 a2, .int .u8 a3] w fun e w' => e = .returned (.bool r) ∧ Drawn0 w w' := by
  have H : (if a1 < (a0.size : Int) then (if 0 ≤ a1 then (if (bt a0 a1) ≥ a2 then (some (decide ((bt a0 a1) ≤ a3))) else (some false)) else (none)) else (some false)) = some r := h
  clear h
  by_cases c5 : a1 < (a0.size : Int)
  · rw [if_pos c5] at H
    have c5b0 : decide (a1 < (a0.size : Int)) = true := decide_eq_true c5
    clear c5
    by_cases c6 : 0 ≤ a1
    · rw [if_pos c6] at H
      have c6b0 : decide (0 ≤ a1) = true := decide_eq_true c6
      clear c6
      by_cases c8 : (bt a0 a1) ≥ a2
      · rw [if_pos c8] at H
        have c8b0 : decide (a2 ≤ (bt a0 a1)) = true := decide_eq_true c8
        clear c8
        obtain rfl := Option.some.inj H
        have p7 : 0 ≤ (a1 : Int) := of_decide_eq_true (by first | (with_reducible assumption) | assumption)
        have q7 : a1 < (a0.size : Int) := of_decide_eq_true (by first | (with_reducible assumption) | assumption)
        have hx7 := bt_at a0 a1
        replace p7 := eq_true p7
        replace q7 := eq_true q7
        have p9 : 0 ≤ (a1 : Int) := of_decide_eq_true (by first | (with_reducible assumption) | assumption)
        have q9 : a1 < (a0.size : Int) := of_decide_eq_true (by first | (with_reducible assumption) | assumption)
        have hx9 := bt_at a0 a1
        replace p9 := eq_true p9
        replace q9 := eq_true q9
        go_enter Tryd.func95, Tryd.ntmps95
        go_wp2
        go_ret
        exact ⟨by first | rfl | (simp; done) | (simp [*]; done), by repeat (first | exact Drawn0.refl _ | apply Drawn0.step)⟩
      · rw [if_neg c8] at H
        have c8b0 : decide (a2 ≤ (bt a0 a1)) = false := decide_eq_false c8
        clear c8
        obtain rfl := Option.some.inj H
        have p7 : 0 ≤ (a1 : Int) := of_decide_eq_true (by first | (with_reducible assumption) | assumption)
        have q7 : a1 < (a0.size : Int) := of_decide_eq_true (by first | (with_reducible assumption) | assumption)
        have hx7 := bt_at a0 a1
        replace p7 := eq_true p7
        replace q7 := eq_true q7
        go_enter Tryd.func95, Tryd.ntmps95
        go_wp2
        go_ret
        exact ⟨by first | rfl | (simp; done) | (simp [*]; done), by repeat (first | exact Drawn0.refl _ | apply Drawn0.step)⟩
    · rw [if_neg c6] at H
      exact absurd H (by simp)
  · rw [if_neg c5] at H
    have c5b0 : decide (a1 < (a0.size : Int)) = false := decide_eq_false c5
    clear c5
    obtain rfl := Option.some.inj H
    go_enter Tryd.func95, Tryd.ntmps95
    go_wp2
    go_ret
    exact ⟨by first | rfl | (simp; done) | (simp [*]; done), by repeat (first | exact Drawn0.refl _ | apply Drawn0.step)⟩
end Go.Proofs.YtfaelejeihmgcaaDoor.Wd
end

section
namespace Go.Proofs.YtfaelejeihmgcaaDoor.Stp
open Go.RowKit Go.Proofs.YtfaelejeihmgcaaDoorW.PrintWords Go.Proofs.YtfaelejeihmgcaaDoorW.PrintLast
theorem put10 {W : World} {g : Nat} {a0 a1 a2 a3 a4 a5 a6 a7 a8 a9 : Value} (h : W.heap[g]? = some (.cells #[a0, a1, a2, a3, a4, a5, a6, a7, a8, a9] 61)) (b0 b1 b2 b3 b4 b5 b6 b7 b8 b9 : Value) :
    ((((((((((W.setCell ⟨g, 0, none⟩ b0).setCell ⟨g, 1, none⟩ b1).setCell ⟨g, 2, none⟩ b2).setCell ⟨g, 3, none⟩ b3).setCell ⟨g, 4, none⟩ b4).setCell ⟨g, 5, none⟩ b5).setCell ⟨g, 6, none⟩ b6).setCell ⟨g, 7, none⟩ b7).setCell ⟨g, 8, none⟩ b8).setCell ⟨g, 9, none⟩ b9).heap[g]? = some (.cells #[b0, b1, b2, b3, b4, b5, b6, b7, b8, b9] 61) := by
  simp [World.setCell, Array.getElem?_modify, h]
theorem cells10 {W : World} {g : Nat} {a0 a1 a2 a3 a4 a5 a6 a7 a8 a9 : Value} (h : W.heap[g]? = some (.cells #[a0, a1, a2, a3, a4, a5, a6, a7, a8, a9] 61)) :
    W.cell? ⟨g, 0, none⟩ = some a0 ∧ W.cell? ⟨g, 1, none⟩ = some a1 ∧ W.cell? ⟨g, 2, none⟩ = some a2 ∧ W.cell? ⟨g, 3, none⟩ = some a3 ∧ W.cell? ⟨g, 4, none⟩ = some a4 ∧ W.cell? ⟨g, 5, none⟩ = some a5 ∧ W.cell? ⟨g, 6, none⟩ = some a6 ∧ W.cell? ⟨g, 7, none⟩ = some a7 ∧ W.cell? ⟨g, 8, none⟩ = some a8 ∧ W.cell? ⟨g, 9, none⟩ = some a9 :=
  ⟨Lib.cell_of_heap h 0, Lib.cell_of_heap h 1, Lib.cell_of_heap h 2, Lib.cell_of_heap h 3, Lib.cell_of_heap h 4, Lib.cell_of_heap h 5, Lib.cell_of_heap h 6, Lib.cell_of_heap h 7, Lib.cell_of_heap h 8, Lib.cell_of_heap h 9⟩
theorem frozen10 {W : World} {g : Nat} {a0 a1 a2 a3 a4 a5 a6 a7 a8 a9 : Value} (h : W.heap[g]? = some (.cells #[a0, a1, a2, a3, a4, a5, a6, a7, a8, a9] 61)) :
    W.frozen? ⟨g, 0, none⟩ = false ∧ W.frozen? ⟨g, 1, none⟩ = false ∧ W.frozen? ⟨g, 2, none⟩ = false ∧ W.frozen? ⟨g, 3, none⟩ = false ∧ W.frozen? ⟨g, 4, none⟩ = false ∧ W.frozen? ⟨g, 5, none⟩ = false ∧ W.frozen? ⟨g, 6, none⟩ = false ∧ W.frozen? ⟨g, 7, none⟩ = false ∧ W.frozen? ⟨g, 8, none⟩ = false ∧ W.frozen? ⟨g, 9, none⟩ = false :=
  ⟨Lib.frozen_of_heap h 0, Lib.frozen_of_heap h 1, Lib.frozen_of_heap h 2, Lib.frozen_of_heap h 3, Lib.frozen_of_heap h 4, Lib.frozen_of_heap h 5, Lib.frozen_of_heap h 6, Lib.frozen_of_heap h 7, Lib.frozen_of_heap h 8, Lib.frozen_of_heap h 9⟩
theorem grown10 (W : World) (g : Nat) (b0 b1 b2 b3 b4 b5 b6 b7 b8 b9 : Value) :
    W.grownBy ((((((((((W.setCell ⟨g, 0, none⟩ b0).setCell ⟨g, 1, none⟩ b1).setCell ⟨g, 2, none⟩ b2).setCell ⟨g, 3, none⟩ b3).setCell ⟨g, 4, none⟩ b4).setCell ⟨g, 5, none⟩ b5).setCell ⟨g, 6, none⟩ b6).setCell ⟨g, 7, none⟩ b7).setCell ⟨g, 8, none⟩ b8).setCell ⟨g, 9, none⟩ b9) (some g) := by
  refine World.grownBy.trans ?_ (set_grown _ g 9 b9)
  refine World.grownBy.trans ?_ (set_grown _ g 8 b8)
  refine World.grownBy.trans ?_ (set_grown _ g 7 b7)
  refine World.grownBy.trans ?_ (set_grown _ g 6 b6)
  refine World.grownBy.trans ?_ (set_grown _ g 5 b5)
  refine World.grownBy.trans ?_ (set_grown _ g 4 b4)
  refine World.grownBy.trans ?_ (set_grown _ g 3 b3)
  refine World.grownBy.trans ?_ (set_grown _ g 2 b2)
  refine World.grownBy.trans ?_ (set_grown _ g 1 b1)
  exact set_grown _ g 0 b0
def zeroOp (k : Int) : OpV := ⟨k, 0, ⟨#[]⟩, ⟨#[]⟩, [], 0, [], 0, 0, 0⟩
/-- a kind's word and fields -/
def nameT (k : Int) : ByteArray × ByteArray := (step_name.f k).getD (⟨#[]⟩, ⟨#[]⟩)
set_option maxRecDepth 10000 in
theorem name_all : ∀ k : Fin 16, (step_name.f (k.val : Int)).isSome = true ∧ (nameT (k.val : Int)).2.size ≤ 100 := by decide
theorem name_f (k : Nat) (hk : k ≤ 15) : step_name.f (k : Int) = some (nameT (k : Int)) := by
  have h := (name_all ⟨k, by omega⟩).1
  unfold nameT
  obtain ⟨x, hx⟩ := Option.isSome_iff_exists.1 h
  simp only at hx
  rw [hx]
  rfl
theorem name_size (k : Nat) (hk : k ≤ 15) : (nameT (k : Int)).2.size ≤ 100 := (name_all ⟨k, by omega⟩).2
def parseK (l : List ByteArray) : Nat → Nat → Option OpV
  | 0, _ => none
  | f + 1, k => if l.length ≠ 0 ∧ (l.headD ⟨#[]⟩).toList = (nameT (k : Int)).1.toList then (if (fillF (nameT (k : Int)).2.data.toList (zeroOp (k : Int)) l.tail).1 = true then some (fillF (nameT (k : Int)).2.data.toList (zeroOp (k : Int)) l.tail).2 else none) else parseK l f (k + 1)
def resO : Option OpV → OpV × Int
  | some o => (o, 0)
  | none => (zeroOp 0, 2)
def parseO (l : List ByteArray) (e : Int) : OpV × Int := if e = 0 then resO (parseK l 14 1) else (zeroOp 0, e)
/-- what stands behind a parsing -/
def Parsed (w : World) (r : OpV × Int) (en : Ending) (w' : World) : Prop :=
  ∃ vk vm, en = .returned (.tuple #[.agg (opC r.1 vk vm), .int .i64 r.2]) ∧ Kd.R Kd.string 9 w' w.heap.size (fun _ => True) vk r.1.keys ∧ Kd.R (Kd.int .i64) 3 w' w.heap.size (fun _ => True) vm r.1.mask ∧ Below w.heap.size w w'
set_option maxHeartbeats 16000000 in
set_option maxRecDepth 100000 in
theorem step_Parse_walk (kf : Nat) (s : ByteArray) (l : List ByteArray) (e : Int) (w : World) (hsp : Wd.word_Split.f kf s = some (l, e)) (hl : l.length ≤ 1048576) (hs : ∀ x ∈ l, x.size ≤ 1099511627776) (hT : Tabs w) :
    Calls Tryd.prog 42 #[.string s] w (Parsed w (parseO l e)) := by
  obtain ⟨R, hR⟩ : ∃ R, R = parseO l e := ⟨_, rfl⟩
  rw [← hR]
  have HR := Lib.hid hR
  have HS := Lib.hid hs
  have HSP := Lib.hid hsp
  have hz := heap_alloc_new w (.cells (opC (zeroOp 0) nilV nilV) 61)
  have hb1 := below_alloc (Below.refl _ w) (.cells (opC (zeroOp 0) nilV nilV) 61)
  have hlt1 : w.heap.size < (w.alloc (.cells (opC (zeroOp 0) nilV nilV) 61)).heap.size := by simp
  clear hR hs hsp
  go_enter Tryd.func42, Tryd.ntmps42
  go_wp2_with fail
  change Calls Tryd.prog 19 _ (w.alloc (.cells (opC (zeroOp 0) nilV nilV) 61)) _
  generalize w.alloc (.cells (opC (zeroOp 0) nilV nilV) 61) = w1 at hz hb1 hlt1 ⊢
  refine (Wd.word_Split.calls kf s l e w1 HSP.out (hT.u.below hb1)).mono ?_
  rintro en w2 ⟨v, rfl, hRl, hb2⟩
  obtain ⟨A, c, ev⟩ := Kd.R_slice hRl
  subst ev
  have hz2 := (hb2.block w.heap.size hlt1).trans hz
  have hbw := below_then hb1 hb1.size hb2
  by_cases he : e = 0
  rotate_left
  · have hRe : R = (zeroOp 0, e) := by rw [HR.out, parseO, if_neg he]
    have HRe := Lib.hid hRe
    have t1 : (e != 0) = true := bne_iff_ne.2 he
    clear he hRe hRl
    obtain ⟨r0, r1, r2, r3, r4, r5, r6, r7, r8, r9⟩ := cells10 hz2
    obtain ⟨rf0, rf1, rf2, rf3, rf4, rf5, rf6, rf7, rf8, rf9⟩ := frozen10 hz2
    go_wp2
    clear r0 r1 r2 r3 r4 r5 r6 r7 r8 r9 rf0 rf1 rf2 rf3 rf4 rf5 rf6 rf7 rf8 rf9
    have hz9 := put10 hz2 (.int .i64 0) (.int .i64 0) (.string ⟨#[]⟩) (.string ⟨#[]⟩) (.slice none 0 0) (.int .i64 0) (.slice none 0 0) (.int .i64 0) (.int .i64 0) (.int .i64 0)
    have hg9 := grown10 w2 w.heap.size (.int .i64 0) (.int .i64 0) (.string ⟨#[]⟩) (.string ⟨#[]⟩) (.slice none 0 0) (.int .i64 0) (.slice none 0 0) (.int .i64 0) (.int .i64 0) (.int .i64 0)
    generalize ((((((((((w2.setCell ⟨w.heap.size, 0, none⟩ (.int .i64 0)).setCell ⟨w.heap.size, 1, none⟩ (.int .i64 0)).setCell ⟨w.heap.size, 2, none⟩ (.string ⟨#[]⟩)).setCell ⟨w.heap.size, 3, none⟩ (.string ⟨#[]⟩)).setCell ⟨w.heap.size, 4, none⟩ (.slice none 0 0)).setCell ⟨w.heap.size, 5, none⟩ (.int .i64 0)).setCell ⟨w.heap.size, 6, none⟩ (.slice none 0 0)).setCell ⟨w.heap.size, 7, none⟩ (.int .i64 0)).setCell ⟨w.heap.size, 8, none⟩ (.int .i64 0)).setCell ⟨w.heap.size, 9, none⟩ (.int .i64 0)) = w9 at hz9 hg9 ⊢
    obtain ⟨s0, s1, s2, s3, s4, s5, s6, s7, s8, s9⟩ := cells10 hz9
    have hb9 := pw_below_grown hbw _ hbw.size hg9 (fun k e => by cases e; exact Nat.le_refl _)
    refine bodyPost_ret (v := .tuple #[.agg #[.int .i64 0, .int .i64 0, .string ⟨#[]⟩, .string ⟨#[]⟩, .slice none 0 0, .int .i64 0, .slice none 0 0, .int .i64 0, .int .i64 0, .int .i64 0], .int .i64 e]) (by simp [results, Tryd.results42, go_sem, s0, s1, s2, s3, s4, s5, s6, s7, s8, s9]) rfl ?_
    exact ⟨.slice none 0 0, .slice none 0 0, by rw [HRe.out]; rfl, by rw [HRe.out]; exact Kd.R_nil _ _ _ _ _, by rw [HRe.out]; exact Kd.R_nil _ _ _ _ _, hb9⟩
  · subst he
    obtain ⟨R1, hR1⟩ : ∃ R1, R1 = parseK l 14 1 := ⟨_, rfl⟩
    have hRe : R = resO R1 := by rw [HR.out, parseO, if_pos rfl, hR1]
    have HRe := Lib.hid hRe
    have HR1 := Lib.hid hR1
    obtain ⟨m1, hm1⟩ : ∃ m1, l.length = m1 := ⟨_, rfl⟩
    rw [hm1] at hRl ⊢
    have Hm1 := Lib.hid hm1
    clear hRe hR1 HR hm1
    go_wp2_with fail
    go_loopw [6] (fun i wr => ∃ k : Nat, 1 ≤ k ∧ k ≤ 15 ∧ i = .int .i64 k ∧ Below w2.heap.size w2 wr ∧ Aside0 (R1 = parseK l (15 - k) k)) (fun i _ => 15 - (intOf i).toNat)
    case atStart => exact ⟨1, Nat.le_refl _, by decide, rfl, Below.refl _ _, ⟨HR1.out⟩⟩
    case round =>
      clear HR1
      obtain ⟨k, hk1, hk15, rfl, hbi, hq⟩ := hrel
      have hz3 := (hbi.block w.heap.size (Nat.lt_of_lt_of_le hlt1 hb2.size)).trans hz2
      have hbx := below_then hbw hbw.size hbi
      have hRi := Kd.R_below hRl hbi
      by_cases hlt : k ≤ 14
      rotate_left
      · obtain rfl : k = 15 := by omega
        have hRn : R = (zeroOp 0, 2) := by rw [HRe.out, hq.out]; rfl
        have HRn := Lib.hid hRn
        clear hRn hq HRe
        obtain ⟨r0, r1, r2, r3, r4, r5, r6, r7, r8, r9⟩ := cells10 hz3
        obtain ⟨rf0, rf1, rf2, rf3, rf4, rf5, rf6, rf7, rf8, rf9⟩ := frozen10 hz3
        go_wp2
        clear r0 r1 r2 r3 r4 r5 r6 r7 r8 r9 rf0 rf1 rf2 rf3 rf4 rf5 rf6 rf7 rf8 rf9
        have hz9 := put10 hz3 (.int .i64 0) (.int .i64 0) (.string ⟨#[]⟩) (.string ⟨#[]⟩) (.slice none 0 0) (.int .i64 0) (.slice none 0 0) (.int .i64 0) (.int .i64 0) (.int .i64 0)
        have hg9 := grown10 wr w.heap.size (.int .i64 0) (.int .i64 0) (.string ⟨#[]⟩) (.string ⟨#[]⟩) (.slice none 0 0) (.int .i64 0) (.slice none 0 0) (.int .i64 0) (.int .i64 0) (.int .i64 0)
        generalize ((((((((((wr.setCell ⟨w.heap.size, 0, none⟩ (.int .i64 0)).setCell ⟨w.heap.size, 1, none⟩ (.int .i64 0)).setCell ⟨w.heap.size, 2, none⟩ (.string ⟨#[]⟩)).setCell ⟨w.heap.size, 3, none⟩ (.string ⟨#[]⟩)).setCell ⟨w.heap.size, 4, none⟩ (.slice none 0 0)).setCell ⟨w.heap.size, 5, none⟩ (.int .i64 0)).setCell ⟨w.heap.size, 6, none⟩ (.slice none 0 0)).setCell ⟨w.heap.size, 7, none⟩ (.int .i64 0)).setCell ⟨w.heap.size, 8, none⟩ (.int .i64 0)).setCell ⟨w.heap.size, 9, none⟩ (.int .i64 0)) = w9 at hz9 hg9 ⊢
        obtain ⟨s0, s1, s2, s3, s4, s5, s6, s7, s8, s9⟩ := cells10 hz9
        have hb9 := pw_below_grown hbx _ hbx.size hg9 (fun k e => by cases e; exact Nat.le_refl _)
        refine bodyPost_ret (v := .tuple #[.agg #[.int .i64 0, .int .i64 0, .string ⟨#[]⟩, .string ⟨#[]⟩, .slice none 0 0, .int .i64 0, .slice none 0 0, .int .i64 0, .int .i64 0, .int .i64 0], .int .i64 2]) (by simp [results, Tryd.results42, go_sem, s0, s1, s2, s3, s4, s5, s6, s7, s8, s9]) rfl ?_
        exact ⟨.slice none 0 0, .slice none 0 0, by rw [HRn.out]; rfl, by rw [HRn.out]; exact Kd.R_nil _ _ _ _ _, by rw [HRn.out]; exact Kd.R_nil _ _ _ _ _, hb9⟩
      · have hq1 := hq.out
        rw [show 15 - k = (14 - k) + 1 by omega, parseK, show 14 - k = 15 - (k + 1) by omega] at hq1
        obtain ⟨⟨nw, nf⟩, hn⟩ : ∃ r, nameT (k : Int) = r := ⟨_, rfl⟩
        have hns := name_size k (by omega)
        rw [hn] at hq1 hns
        have hnm := fun W => step_name.calls (k : Int) nw nf W (by rw [name_f k (by omega), hn])
        have Hq1 := Lib.hid hq1
        have d1 : decide ((k : Int) ≤ 14) = true := decide_eq_true (by omega)
        clear hq1 hq hn
        go_wp2_with fail
        refine (hnm _).mono ?_
        rintro en w4 ⟨rfl, hd⟩
        have hb4 := below_then hbi hbi.size hd.below
        have hRi4 := Kd.R_below hRi hd.below
        have hz4 := (hd.below.block w.heap.size (Nat.lt_of_lt_of_le (Nat.lt_of_lt_of_le hlt1 hb2.size) hbi.size)).trans hz3
        have hbx4 := below_then hbx hbx.size hd.below
        clear hnm hd hbi hRi hz3 hbx
        by_cases hm : l.length ≠ 0 ∧ (l.headD ⟨#[]⟩).toList = nw.toList
        rotate_left
        · have hq1 := Hq1.out
          rw [if_neg hm] at hq1
          replace Hq1 := Lib.hid hq1
          clear hq1
          by_cases hl0 : m1 = 0
          · subst hl0
            clear hm
            go_wp2
            go_roundw
            case rel => exact ⟨k + 1, by omega, by omega, by simp, hb4, ⟨Hq1.out⟩⟩
            case measure => simp [intOf]; omega
          · obtain ⟨x, l2, rfl⟩ : ∃ x l2, l = x :: l2 := by
              cases l with
              | nil => exact absurd Hm1.out.symm hl0
              | cons x l2 => exact ⟨x, l2, rfl⟩
            have hne : ¬ x.toList = nw.toList := fun h => hm ⟨by simp, h⟩
            have t1 : (x.toList == nw.toList) = false := beq_eq_false_iff_ne.2 hne
            obtain ⟨adw, ew, c0⟩ := Kd.at_string (Kd.R_reads' hRi4).2.2 0 (by decide) (by simp only [List.length_cons]; omega)
            cases ew
            have c00 : w4.cell? adw = some (.string x) := by
              have h := c0
              rw [show adw.add (0 : Int).toNat = adw by simp [Addr.add]] at h
              exact h
            have hm0 : 0 < m1 := by omega
            clear hm hne c0 hl0
            go_wp2
            go_roundw
            case rel => exact ⟨k + 1, by omega, by omega, by simp, hb4, ⟨Hq1.out⟩⟩
            case measure => simp [intOf]; omega
        · have hl0 : m1 ≠ 0 := fun h => hm.1 (by rw [Hm1.out]; exact h)
          obtain ⟨x, l2, rfl⟩ : ∃ x l2, l = x :: l2 := by
            cases l with
            | nil => exact absurd rfl hm.1
            | cons x l2 => exact ⟨x, l2, rfl⟩
          have hxn : x.toList = nw.toList := hm.2
          have t1 : (x.toList == nw.toList) = true := beq_iff_eq.2 hxn
          have hq1 := Hq1.out
          rw [if_pos hm] at hq1
          obtain ⟨⟨b6, o6⟩, hf⟩ : ∃ r, fillF nf.data.toList (zeroOp k) l2 = r := ⟨_, rfl⟩
          simp only [List.tail_cons, hf] at hq1
          have Hq2 := Lib.hid hq1
          have hRc := Kd.R_reads' hRi4
          obtain ⟨adw, ew, c0⟩ := Kd.at_string hRc.2.2 0 (by decide) (by simp only [List.length_cons]; omega)
          cases ew
          have c00 : w4.cell? adw = some (.string x) := by
            have h := c0
            rw [show adw.add (0 : Int).toNat = adw by simp [Addr.add]] at h
            exact h
          have hm0 : 0 < m1 := by omega
          have hml : m1 = l2.length + 1 := by have := Hm1.out; rw [List.length_cons] at this; omega
          have hcm : m1 ≤ c := hRc.2.1
          obtain ⟨TA, hTA⟩ : ∃ TA, (if c = 1 then some adw else (some adw).map (·.add 1)) = TA := ⟨_, rfl⟩
          have hsl : ∀ W, (Instr.slice 22 (.slice (some adw) m1 c) (some (.int .i64 1)) none none).run Tryd.prog W = .ok (.slice TA l2.length (c - 1)) W := fun W => by
            have h := slice_tail22 (some adw) m1 c 1 (by omega) W
            rw [hTA, show m1 - 1 = l2.length by omega] at h
            exact h
          obtain ⟨O, hO⟩ : ∃ O : Obj, O = .cells (opC (zeroOp k) nilV nilV) 61 := ⟨_, rfl⟩
          have hg5 : (w4.alloc O).heap[w4.heap.size]? = some (.cells (opC (zeroOp k) nilV nilV) 61) := by rw [← hO]; exact heap_alloc_new w4 O
          have hb5 := below_alloc hbx4 O
          have hR5 := Kd.R_alloc (Kd.R_mono (Kd.R_bound hRi4) (fun q hq => (hq.2.2.1 : q < w4.heap.size))) O
          have hz5 : (w4.alloc O).heap[w.heap.size]? = some (.cells (opC (zeroOp 0) nilV nilV) 61) := (Lib.alloc_old w4 O _ (Array.getElem?_eq_some_iff.1 hz4).1).trans hz4
          have hwlt : w.heap.size < w4.heap.size := (Array.getElem?_eq_some_iff.1 hz4).1
          have HO := Lib.hid hO
          have Hml := Lib.hid hml
          have hlen2 : l2.length ≤ 1048576 := by rw [List.length_cons] at hl; omega
          have hr5 : ∀ W, (w4.alloc O).grownBy W (some w4.heap.size) → Kd.C Kd.string W TA l2.length l2 := fun W hW => by
            have h := Kd.R_reads' (Kd.R_grown hR5 hW (fun q hq e => by have := Option.some.inj e; have : q < w4.heap.size := hq; omega))
            have h2 := Kd.C_drop (m := 1) h.2.2 (by rw [List.length_cons]; omega) (by rw [← h.1]; exact h.2.1)
            rw [show (Kd.string).sz = 1 from rfl, Nat.one_mul, hTA] at h2
            exact h2
          have hT5 : ∀ W, (w4.alloc O).grownBy W (some w4.heap.size) → Tabs W := fun W hW => hT.below (pw_below_grown hb5 _ hb5.size hW (fun q e => by cases e; omega))
          have hfill := step_fill_walk w4.heap.size (zeroOp k) nf TA (c - 1) l2 (w4.alloc O) hg5 rfl rfl hr5 (by omega) hlen2 (fun y hy => HS.out y (by simp [hy])) hT5 hns
          rw [hf] at hfill
          clear hm hxn hq1 Hq1 hf hRc c0 hTA hml hr5 hT5 hlen2 hR5 hcm hl0 hg5 hO
          go_wp2_with fail
          change Calls Tryd.prog 82 _ (w4.alloc (.cells (opC (zeroOp k) nilV nilV) 61)) _
          rw [← HO.out]
          refine hfill.mono ?_
          rintro en w6 ⟨rfl, hg6, hres⟩
          have hb6 := pw_below_grown hb5 _ hb5.size hg6 (fun q e => by cases e; omega)
          have hz6 : w6.heap[w.heap.size]? = some (.cells (opC (zeroOp 0) nilV nilV) 61) := (hg6.block w.heap.size (by simp; omega) (fun e => by have := Option.some.inj e; omega)).trans hz5
          clear hfill hsl c00 hz5 hg6
          cases b6
          · have hRn : R = (zeroOp 0, 2) := by rw [HRe.out, Hq2.out]; rfl
            have HRn := Lib.hid hRn
            clear hRn hres Hq2 HRe
            obtain ⟨r0, r1, r2, r3, r4, r5, r6, r7, r8, r9⟩ := cells10 hz6
            obtain ⟨rf0, rf1, rf2, rf3, rf4, rf5, rf6, rf7, rf8, rf9⟩ := frozen10 hz6
            go_wp2
            clear r0 r1 r2 r3 r4 r5 r6 r7 r8 r9 rf0 rf1 rf2 rf3 rf4 rf5 rf6 rf7 rf8 rf9
            have hz9 := put10 hz6 (.int .i64 0) (.int .i64 0) (.string ⟨#[]⟩) (.string ⟨#[]⟩) (.slice none 0 0) (.int .i64 0) (.slice none 0 0) (.int .i64 0) (.int .i64 0) (.int .i64 0)
            have hg9 := grown10 w6 w.heap.size (.int .i64 0) (.int .i64 0) (.string ⟨#[]⟩) (.string ⟨#[]⟩) (.slice none 0 0) (.int .i64 0) (.slice none 0 0) (.int .i64 0) (.int .i64 0) (.int .i64 0)
            generalize ((((((((((w6.setCell ⟨w.heap.size, 0, none⟩ (.int .i64 0)).setCell ⟨w.heap.size, 1, none⟩ (.int .i64 0)).setCell ⟨w.heap.size, 2, none⟩ (.string ⟨#[]⟩)).setCell ⟨w.heap.size, 3, none⟩ (.string ⟨#[]⟩)).setCell ⟨w.heap.size, 4, none⟩ (.slice none 0 0)).setCell ⟨w.heap.size, 5, none⟩ (.int .i64 0)).setCell ⟨w.heap.size, 6, none⟩ (.slice none 0 0)).setCell ⟨w.heap.size, 7, none⟩ (.int .i64 0)).setCell ⟨w.heap.size, 8, none⟩ (.int .i64 0)).setCell ⟨w.heap.size, 9, none⟩ (.int .i64 0)) = w9 at hz9 hg9 ⊢
            obtain ⟨s0, s1, s2, s3, s4, s5, s6, s7, s8, s9⟩ := cells10 hz9
            have hb9 := pw_below_grown hb6 _ hb6.size hg9 (fun k e => by cases e; exact Nat.le_refl _)
            refine bodyPost_ret (v := .tuple #[.agg #[.int .i64 0, .int .i64 0, .string ⟨#[]⟩, .string ⟨#[]⟩, .slice none 0 0, .int .i64 0, .slice none 0 0, .int .i64 0, .int .i64 0, .int .i64 0], .int .i64 2]) (by simp [results, Tryd.results42, go_sem, s0, s1, s2, s3, s4, s5, s6, s7, s8, s9]) rfl ?_
            exact ⟨.slice none 0 0, .slice none 0 0, by rw [HRn.out]; rfl, by rw [HRn.out]; exact Kd.R_nil _ _ _ _ _, by rw [HRn.out]; exact Kd.R_nil _ _ _ _ _, hb9⟩
          · have hRn : R = (o6, 0) := by rw [HRe.out, Hq2.out]; rfl
            have HRn := Lib.hid hRn
            obtain ⟨vk, vm, hop, hRk, hRm⟩ := hres rfl
            obtain ⟨Ak, ck, ek⟩ := Kd.R_slice hRk
            subst ek
            obtain ⟨Am, cm, em⟩ := Kd.R_slice hRm
            subst em
            clear hRn hres Hq2 HRe
            obtain ⟨r0, r1, r2, r3, r4, r5, r6, r7, r8, r9⟩ := cells10 hz6
            obtain ⟨rf0, rf1, rf2, rf3, rf4, rf5, rf6, rf7, rf8, rf9⟩ := frozen10 hz6
            obtain ⟨p0, p1, p2, p3, p4, p5, p6, p7, p8, p9⟩ := cells10 hop
            go_wp2
            clear r0 r1 r2 r3 r4 r5 r6 r7 r8 r9 rf0 rf1 rf2 rf3 rf4 rf5 rf6 rf7 rf8 rf9
            clear p0 p1 p2 p3 p4 p5 p6 p7 p8 p9
            have hz9 := put10 hz6 (.int .i64 o6.kind) (.int .i64 o6.s) (.string o6.key) (.string o6.val) (.slice Ak o6.keys.length ck) (.int .i64 o6.n) (.slice Am o6.mask.length cm) (.int .i64 o6.page) (.int .i64 o6.at_) (.int .i64 o6.x)
            have hg9 := grown10 w6 w.heap.size (.int .i64 o6.kind) (.int .i64 o6.s) (.string o6.key) (.string o6.val) (.slice Ak o6.keys.length ck) (.int .i64 o6.n) (.slice Am o6.mask.length cm) (.int .i64 o6.page) (.int .i64 o6.at_) (.int .i64 o6.x)
            have hk9 := Kd.R_grown (Kd.R_mono (Kd.R_bound hRk) (fun q hq => (hq.2.1 : (w4.alloc O).heap.size ≤ q))) hg9 (fun q hq e => by have := Option.some.inj e; have : (w4.alloc O).heap.size ≤ q := hq; have h2 : w4.heap.size ≤ (w4.alloc O).heap.size := (by simp); omega)
            have hm9 := Kd.R_grown (Kd.R_mono (Kd.R_bound hRm) (fun q hq => (hq.2.1 : (w4.alloc O).heap.size ≤ q))) hg9 (fun q hq e => by have := Option.some.inj e; have : (w4.alloc O).heap.size ≤ q := hq; have h2 : w4.heap.size ≤ (w4.alloc O).heap.size := (by simp); omega)
            generalize ((((((((((w6.setCell ⟨w.heap.size, 0, none⟩ (.int .i64 o6.kind)).setCell ⟨w.heap.size, 1, none⟩ (.int .i64 o6.s)).setCell ⟨w.heap.size, 2, none⟩ (.string o6.key)).setCell ⟨w.heap.size, 3, none⟩ (.string o6.val)).setCell ⟨w.heap.size, 4, none⟩ (.slice Ak o6.keys.length ck)).setCell ⟨w.heap.size, 5, none⟩ (.int .i64 o6.n)).setCell ⟨w.heap.size, 6, none⟩ (.slice Am o6.mask.length cm)).setCell ⟨w.heap.size, 7, none⟩ (.int .i64 o6.page)).setCell ⟨w.heap.size, 8, none⟩ (.int .i64 o6.at_)).setCell ⟨w.heap.size, 9, none⟩ (.int .i64 o6.x)) = w9 at hz9 hg9 hk9 hm9 ⊢
            obtain ⟨s0, s1, s2, s3, s4, s5, s6, s7, s8, s9⟩ := cells10 hz9
            have hb9 := pw_below_grown hb6 _ hb6.size hg9 (fun k e => by cases e; exact Nat.le_refl _)
            refine bodyPost_ret (v := .tuple #[.agg #[.int .i64 o6.kind, .int .i64 o6.s, .string o6.key, .string o6.val, .slice Ak o6.keys.length ck, .int .i64 o6.n, .slice Am o6.mask.length cm, .int .i64 o6.page, .int .i64 o6.at_, .int .i64 o6.x], .int .i64 0]) (by simp [results, Tryd.results42, go_sem, s0, s1, s2, s3, s4, s5, s6, s7, s8, s9]) rfl ?_
            exact ⟨.slice Ak o6.keys.length ck, .slice Am o6.mask.length cm, by rw [HRn.out]; rfl, by rw [HRn.out]; exact Kd.R_lower (Kd.R_mono hk9 (fun _ _ => trivial)) hb5.size, by rw [HRn.out]; exact Kd.R_lower (Kd.R_mono hm9 (fun _ _ => trivial)) hb5.size, hb9⟩
end Go.Proofs.YtfaelejeihmgcaaDoor.Stp
end

section
namespace Go.Proofs.YtfaelejeihmgcaaDoor.Stp
open Go.RowKit Go.Proofs.YtfaelejeihmgcaaDoorW.PrintWords Go.Proofs.YtfaelejeihmgcaaDoorW.PrintLast Go.Proofs.YtfaelejeihmgcaaDoorW.PrintMore
attribute [local go_sem] max2_int min2_int max_two min_two max_three min_three max_four min_four   -- for this text's walks alone
set_option linter.unusedVariables false
set_option linter.unusedSimpArgs false
def cachepotref3_numbers.l0 : Nat → List ByteArray → List Int → Int → Option (List Int × Bool)
  | 0, _, _, _ => none
  | k + 1, x0, x4, x5 => if x5 < (x0.length : Int) then (if 0 ≤ x5 then ((cachepotref3_number.f k (rdOf ByteArray.empty x0 x5)).bind fun bt120 => (if bt120.2 = true then (if x4.length < 17592186044416 then (cachepotref3_numbers.l0 k x0 (x4 ++ [bt120.1]) (wrap64 (x5 + 1))) else (none)) else (some (([] : List Int), false)))) else (none)) else (some (x4, true))
def cachepotref3_numbers.f (k : Nat) (l0 : List ByteArray) : Option (List Int × Bool) := cachepotref3_numbers.l0 k l0 ([] : List Int) 0
set_option maxHeartbeats 8000000 in
set_option maxRecDepth 100000 in
theorem cachepotref3_numbers.calls (k : Nat) (A0 : Option Addr) (c0 : Nat) (l0 : List ByteArray) (r1 : List Int) (r2 : Bool) (w : World) (hr0 : Kd.C Kd.string w A0 l0.length l0) (hc0 : l0.length ≤ c0) (h : cachepotref3_numbers.f k l0 = some (r1, r2)) :
    Calls Tryd.prog 111 #[.slice A0 l0.length c0] w fun e w' => ∃ v0_ : Value, e = .returned (.tuple #[v0_, .bool r2]) ∧ Kd.R (Kd.int .i64) 3 w' w.heap.size (fun _ => True) v0_ r1 ∧ Below w.heap.size w w' := by
  have HR0 := Aside0.mk hr0
  have HC0 := Aside0.mk hc0
  clear hr0 hc0
  have HB := Aside0.mk (Below.refl w.heap.size w)
  have H : (cachepotref3_numbers.l0 k l0 ([] : List Int) 0) = some (r1, r2) := h
  clear h
  have H' := Aside0.mk H
  clear H
  go_enter Tryd.func111, Tryd.ntmps111
  go_wp2
  go_loopg [4, 5] k (fun kq v4 v5 w' => ∃ (x4_1 : List Int) (x5_1 : Int), v5 = .int .i64 x5_1 ∧ Aside0 (cachepotref3_numbers.l0 kq l0 x4_1 x5_1 = some (r1, r2)) ∧ Aside0 (kq ≤ k) ∧ Aside0 (Kd.R (Kd.int .i64) 3 w' w.heap.size (fun _ => True) v4 x4_1) ∧ Aside0 (Below w.heap.size w w'))
  case atStart => exact ⟨(([] : List Int)), (0), (by first | rfl | (simp; done) | (simp [*]; done)), H', ⟨Nat.le_refl _⟩, ⟨by first | exact Kd.R_nil _ _ _ _ _ | exact Kd.N_nil _ _ _ _ _ | exact Kd.V_nil _ _ _ _ _ | exact Kd.Q_nil _ _ _ _ _ | exact Kd.S_nil _ _ _ _ _⟩, ⟨by repeat (first | (with_reducible first | exact HB.out | apply below_alloc | apply pw_below_drewN | apply below_drew1) | exact HB.out)⟩⟩
  case round =>
    clear H'
    try clear c1
    obtain ⟨x4_1, x5_1, rfl, HA, HK1, HO_4, HB⟩ := hrel
    cases gk with
    | zero => exact absurd HA.out (by simp [cachepotref3_numbers.l0])
    | succ k1 =>
      have H := HA.out
      clear HA
      simp only [cachepotref3_numbers.l0] at H
      by_cases c2 : x5_1 < (l0.length : Int)
      · rw [if_pos c2] at H
        have c2b0 : decide (x5_1 < (l0.length : Int)) = true := decide_eq_true c2
        clear c2
        by_cases c3 : 0 ≤ x5_1
        · rw [if_pos c3] at H
          have c3b0 : decide (0 ≤ x5_1) = true := decide_eq_true c3
          clear c3
          replace H := Option.bind_eq_some_iff.mp H
          obtain ⟨⟨t120, t121⟩, A40, H⟩ := H
          replace H : (if t121 = true then (if x4_1.length < 17592186044416 then (cachepotref3_numbers.l0 k1 l0 (x4_1 ++ [t120]) (wrap64 (x5_1 + 1))) else (none)) else (some (([] : List Int), false))) = some (r1, r2) := H
          have A4 := Aside0.mk A40
          clear A40
          by_cases c5 : t121 = true
          · subst c5
            have H1 : (if x4_1.length < 17592186044416 then (cachepotref3_numbers.l0 k1 l0 (x4_1 ++ [t120]) (wrap64 (x5_1 + 1))) else (none)) = some (r1, r2) := by rw [if_pos rfl] at H; exact H
            clear H
            have H := H1
            clear H1
            by_cases c6 : x4_1.length < 17592186044416
            · rw [if_pos c6] at H
              have LMc6 := Aside0.mk c6
              clear c6
              obtain ⟨y122, hy122⟩ : ∃ y_ : List Int, y_ = (x4_1 ++ [t120]) := ⟨_, rfl⟩
              replace H : (cachepotref3_numbers.l0 k1 l0 y122 (wrap64 (x5_1 + 1))) = some (r1, r2) := by first | (rw [hy122]; with_reducible exact H) | (have H2_ := (Option.bind_some _ _).symm.trans H; rw [hy122]; with_reducible exact H2_) | (have H2_ := (Option.bind_some _ _).symm.trans H; with_reducible exact H2_) | with_reducible exact H | (rw [hy122]; exact H) | exact H
              have Ny122 := Aside0.mk hy122
              clear hy122
              have H' := Aside0.mk H
              clear H
              have p119 : 0 ≤ (x5_1 : Int) := of_decide_eq_true (by first | (with_reducible assumption) | assumption)
              have q119 : x5_1 < (l0.length : Int) := of_decide_eq_true (by first | (with_reducible assumption) | assumption)
              obtain ⟨ad119, e119, hx119_0⟩ := Kd.at_string HR0.out x5_1 p119 q119
              cases e119
              replace hx119_0 := (HB.out.cell (World.block_lt_of_cell? w _ hx119_0)).trans hx119_0
              replace p119 := eq_true p119
              replace q119 := eq_true q119
              go_wp2_with (first | ((with_reducible refine gate_callee (f := 112) rfl ?_); refine goesL_ (some 19) rfl rfl Tryd.func112 (by kernel_rfl) rfl #[.string (rdOf ByteArray.empty l0 x5_1)] rfl (by (try simp only [List.map_toArray, List.map_cons, List.map_nil]); first | done | rfl | (simp only [List.length_drop, List.length_take]; rfl)) ?_; (with_reducible refine (cachepotref3_number.calls k1 (rdOf ByteArray.empty l0 x5_1) t120 true _ A4.out).mono ?_); rintro e w' ⟨rfl, ⟨nd, rfl⟩⟩; refine ⟨_, rfl, ?_⟩) | ((with_reducible refine gate_builtin (b := .append) (xs := #[.tmp 24, .tmp 26]) rfl ?_); at_builtin; refine Kd.R_append (Kd.int .i64) (w0 := w) w.heap.size rfl (.tmp 24) (.tmp 26) 56 3 (.int .i64 0) 8 rfl Tryd.underlying56 info3 rfl (by decide) (by omega) u4 x4_1 t120 [.int .i64 t120] (fun _ => True) (fun _ => False) rfl rfl ?aP (fun _ hk => hk.elim) ?aF ?aO ?aB ?aS ?aL ?_; (case aP => exact rfl); (case aB => exact (by repeat (first | (with_reducible first | exact HB.out | apply below_alloc | apply pw_below_drewN | apply below_drew1) | exact HB.out))); (case aF => exact (fun _ _ => trivial)); (case aO => exact (by (with_reducible repeat (first | apply Kd.R_alloc | apply Kd.R_drewN | apply Kd.R_drew)); exact HO_4.out)); (case aS => exact (below_size (by repeat (first | (with_reducible first | exact HB.out | apply below_alloc | apply pw_below_drewN | apply below_drew1) | exact HB.out)))); (case aL => have := LMc6.out; omega); intro v123 w7 ho hb hg hat; rw [← Ny122.out] at ho; have n0_ := Aside0.mk (hb); have n1_ := Aside0.mk (ho); clear HB; clear HO_4; have HB := n0_; have HO124 := n1_; clear n0_ n1_; clear ho hb hg hat))
              go_roundg k1
              case measure => have := HK1.out; omega
              case rel => exact ⟨(y122), (wrap64 (x5_1 + 1)), (by first | rfl | (simp; done) | (simp [*]; done)), H', ⟨by have := HK1.out; omega⟩, ⟨by (with_reducible repeat (first | apply Kd.R_alloc | apply Kd.R_drewN | apply Kd.R_drew)); exact HO124.out⟩, ⟨by repeat (first | (with_reducible first | exact HB.out | apply below_alloc | apply pw_below_drewN | apply below_drew1) | exact HB.out)⟩⟩
            · rw [if_neg c6] at H
              exact absurd H (by simp)
          · replace c5 := Bool.eq_false_iff.mpr c5
            subst c5
            have H1 : (some (([] : List Int), false)) = some (r1, r2) := by rw [if_neg (show ¬ (false = true) by decide)] at H; exact H
            clear H
            have H := H1
            clear H1
            simp only [Option.some.injEq, Prod.mk.injEq] at H
            obtain ⟨rfl, rfl⟩ := H
            have p119 : 0 ≤ (x5_1 : Int) := of_decide_eq_true (by first | (with_reducible assumption) | assumption)
            have q119 : x5_1 < (l0.length : Int) := of_decide_eq_true (by first | (with_reducible assumption) | assumption)
            obtain ⟨ad119, e119, hx119_0⟩ := Kd.at_string HR0.out x5_1 p119 q119
            cases e119
            replace hx119_0 := (HB.out.cell (World.block_lt_of_cell? w _ hx119_0)).trans hx119_0
            replace p119 := eq_true p119
            replace q119 := eq_true q119
            go_wp2_with (first | ((with_reducible refine gate_callee (f := 112) rfl ?_); refine goesL_ (some 19) rfl rfl Tryd.func112 (by kernel_rfl) rfl #[.string (rdOf ByteArray.empty l0 x5_1)] rfl (by (try simp only [List.map_toArray, List.map_cons, List.map_nil]); first | done | rfl | (simp only [List.length_drop, List.length_take]; rfl)) ?_; (with_reducible refine (cachepotref3_number.calls k1 (rdOf ByteArray.empty l0 x5_1) t120 false _ A4.out).mono ?_); rintro e w' ⟨rfl, ⟨nd, rfl⟩⟩; refine ⟨_, rfl, ?_⟩))
            go_ret2
            exact ⟨_, by first | rfl | (simp [errW_none, errW_some] <;> rfl) | (simp [*, errW_none, errW_some] <;> rfl), by first | exact Kd.R_nil _ _ _ _ _ | exact Kd.N_nil _ _ _ _ _ | exact Kd.V_nil _ _ _ _ _ | exact Kd.Q_nil _ _ _ _ _ | exact Kd.S_nil _ _ _ _ _, by repeat (first | (with_reducible first | exact HB.out | apply below_alloc | apply pw_below_drewN | apply below_drew1) | exact HB.out)⟩
        · rw [if_neg c3] at H
          exact absurd H (by simp)
      · rw [if_neg c2] at H
        have c2b0 : decide (x5_1 < (l0.length : Int)) = false := decide_eq_false c2
        clear c2
        simp only [Option.some.injEq, Prod.mk.injEq] at H
        obtain ⟨rfl, rfl⟩ := H
        go_wp2
        go_ret2
        exact ⟨_, by first | rfl | (simp [errW_none, errW_some] <;> rfl) | (simp [*, errW_none, errW_some] <;> rfl), by (with_reducible repeat (first | apply Kd.R_alloc | apply Kd.R_drewN | apply Kd.R_drew)); exact HO_4.out, by repeat (first | (with_reducible first | exact HB.out | apply below_alloc | apply pw_below_drewN | apply below_drew1) | exact HB.out)⟩
def cachepotbook_SameTexts.l0 : Nat → List ByteArray → List ByteArray → Int → Option (Bool)
  | 0, _, _, _ => none
  | k + 1, x0, x1, x5 => if x5 < (x0.length : Int) then (if 0 ≤ x5 then (if x5 < (x1.length : Int) then (if (rdOf ByteArray.empty x0 x5).toList = (rdOf ByteArray.empty x1 x5).toList then (cachepotbook_SameTexts.l0 k x0 x1 (wrap64 (x5 + 1))) else (some false)) else (none)) else (none)) else (some true)
def cachepotbook_SameTexts.f (k : Nat) (l0 : List ByteArray) (l1 : List ByteArray) : Option (Bool) := if (l0.length : Int) = (l1.length : Int) then (cachepotbook_SameTexts.l0 k l0 l1 0) else (some false)
set_option maxHeartbeats 8000000 in
set_option maxRecDepth 100000 in
theorem cachepotbook_SameTexts.calls (k : Nat) (A0 : Option Addr) (c0 : Nat) (l0 : List ByteArray) (A1 : Option Addr) (c1 : Nat) (l1 : List ByteArray) (r : Bool) (w : World) (hr0 : Kd.C Kd.string w A0 l0.length l0) (hc0 : l0.length ≤ c0) (hr1 : Kd.C Kd.string w A1 l1.length l1) (hc1 : l1.length ≤ c1) (h : cachepotbook_SameTexts.f k l0 l1 = some r) :
    Calls Tryd.prog 22 #[.slice A0 l0.length c0, .slice A1 l1.length c1] w fun e w' => e = .returned (.bool r) ∧ Drawn0 w w' := by
  have HR0 := Aside0.mk hr0
  have HC0 := Aside0.mk hc0
  clear hr0 hc0
  have HR1 := Aside0.mk hr1
  have HC1 := Aside0.mk hc1
  clear hr1 hc1
  have H : (if (l0.length : Int) = (l1.length : Int) then (cachepotbook_SameTexts.l0 k l0 l1 0) else (some false)) = some r := h
  clear h
  by_cases c3 : (l0.length : Int) = (l1.length : Int)
  · rw [if_pos c3] at H
    have c3b0 : ((l0.length : Int) == (l1.length : Int)) = true := beq_iff_eq.mpr c3
    have c3b1 : ((l0.length : Int) != (l1.length : Int)) = false := bne_eq_false_iff_eq.mpr c3
    have c3b2 : (l0.length == l1.length) = true := by first | simpa using c3 | (simp at c3 ⊢; omega)
    clear c3
    have H' := Aside0.mk H
    clear H
    go_enter Tryd.func22, Tryd.ntmps22
    go_wp2
    repeat (go_quiet (fail); try go_wp2)
    go_loopg [5] k (fun kq v5 w' => ∃ (x5_1 : Int), v5 = .int .i64 x5_1 ∧ Aside0 (cachepotbook_SameTexts.l0 kq l0 l1 x5_1 = some r) ∧ Aside0 (kq ≤ k) ∧ Drawn0 w w')
    case atStart => exact ⟨(0), (by first | rfl | (simp; done) | (simp [*]; done)), H', ⟨Nat.le_refl _⟩, by repeat (first | exact Drawn0.refl _ | apply Drawn0.step)⟩
    case round =>
      clear H'
      try clear c1
      try clear c2
      try clear p2
      try clear c3
      try clear c3b0
      try clear c3b1
      try clear c3b2
      obtain ⟨x5_1, rfl, HA, HK1, ⟨m1, rfl⟩⟩ := hrel
      cases gk with
      | zero => exact absurd HA.out (by simp [cachepotbook_SameTexts.l0])
      | succ k1 =>
        have H := HA.out
        clear HA
        simp only [cachepotbook_SameTexts.l0] at H
        by_cases c4 : x5_1 < (l0.length : Int)
        · rw [if_pos c4] at H
          have c4b0 : decide (x5_1 < (l0.length : Int)) = true := decide_eq_true c4
          clear c4
          by_cases c5 : 0 ≤ x5_1
          · rw [if_pos c5] at H
            have c5b0 : decide (0 ≤ x5_1) = true := decide_eq_true c5
            clear c5
            by_cases c6 : x5_1 < (l1.length : Int)
            · rw [if_pos c6] at H
              have c6b0 : decide (x5_1 < (l1.length : Int)) = true := decide_eq_true c6
              clear c6
              by_cases c7 : (rdOf ByteArray.empty l0 x5_1).toList = (rdOf ByteArray.empty l1 x5_1).toList
              · rw [if_pos c7] at H
                have c7b0 : ((rdOf ByteArray.empty l0 x5_1).toList == (rdOf ByteArray.empty l1 x5_1).toList) = true := beq_iff_eq.mpr c7
                have c7b1 : ((rdOf ByteArray.empty l0 x5_1).toList != (rdOf ByteArray.empty l1 x5_1).toList) = false := bne_eq_false_iff_eq.mpr c7
                clear c7
                have H' := Aside0.mk H
                clear H
                have p132 : 0 ≤ (x5_1 : Int) := of_decide_eq_true (by first | (with_reducible assumption) | assumption)
                have q132 : x5_1 < (l0.length : Int) := of_decide_eq_true (by first | (with_reducible assumption) | assumption)
                obtain ⟨ad132, e132, hx132_0⟩ := Kd.at_string HR0.out x5_1 p132 q132
                cases e132
                replace p132 := eq_true p132
                replace q132 := eq_true q132
                have p133 : 0 ≤ (x5_1 : Int) := of_decide_eq_true (by first | (with_reducible assumption) | assumption)
                have q133 : x5_1 < (l1.length : Int) := of_decide_eq_true (by first | (with_reducible assumption) | assumption)
                obtain ⟨ad133, e133, hx133_0⟩ := Kd.at_string HR1.out x5_1 p133 q133
                cases e133
                replace p133 := eq_true p133
                replace q133 := eq_true q133
                go_wp2
                repeat (go_quiet (fail); try go_wp2)
                go_roundg k1
                case measure => have := HK1.out; omega
                case rel => exact ⟨(wrap64 (x5_1 + 1)), (by first | rfl | (simp; done) | (simp [*]; done)), H', ⟨by have := HK1.out; omega⟩, by repeat (first | exact Drawn0.refl _ | apply Drawn0.step)⟩
              · rw [if_neg c7] at H
                have c7b0 : ((rdOf ByteArray.empty l0 x5_1).toList == (rdOf ByteArray.empty l1 x5_1).toList) = false := beq_eq_false_iff_ne.mpr c7
                have c7b1 : ((rdOf ByteArray.empty l0 x5_1).toList != (rdOf ByteArray.empty l1 x5_1).toList) = true := bne_iff_ne.mpr c7
                obtain rfl := Option.some.inj H
                have p132 : 0 ≤ (x5_1 : Int) := of_decide_eq_true (by first | (with_reducible assumption) | assumption)
                have q132 : x5_1 < (l0.length : Int) := of_decide_eq_true (by first | (with_reducible assumption) | assumption)
                obtain ⟨ad132, e132, hx132_0⟩ := Kd.at_string HR0.out x5_1 p132 q132
                cases e132
                replace p132 := eq_true p132
                replace q132 := eq_true q132
                have p133 : 0 ≤ (x5_1 : Int) := of_decide_eq_true (by first | (with_reducible assumption) | assumption)
                have q133 : x5_1 < (l1.length : Int) := of_decide_eq_true (by first | (with_reducible assumption) | assumption)
                obtain ⟨ad133, e133, hx133_0⟩ := Kd.at_string HR1.out x5_1 p133 q133
                cases e133
                replace p133 := eq_true p133
                replace q133 := eq_true q133
                go_wp2
                repeat (go_quiet (fail); try go_wp2)
                go_ret
                exact ⟨by first | rfl | (simp; done) | (simp [*]; done), by repeat (first | exact Drawn0.refl _ | apply Drawn0.step)⟩
            · rw [if_neg c6] at H
              exact absurd H (by simp)
          · rw [if_neg c5] at H
            exact absurd H (by simp)
        · rw [if_neg c4] at H
          have c4b0 : decide (x5_1 < (l0.length : Int)) = false := decide_eq_false c4
          clear c4
          obtain rfl := Option.some.inj H
          go_wp2
          repeat (go_quiet (fail); try go_wp2)
          go_ret
          exact ⟨by first | rfl | (simp; done) | (simp [*]; done), by repeat (first | exact Drawn0.refl _ | apply Drawn0.step)⟩
  · rw [if_neg c3] at H
    have c3b0 : ((l0.length : Int) == (l1.length : Int)) = false := beq_eq_false_iff_ne.mpr c3
    have c3b1 : ((l0.length : Int) != (l1.length : Int)) = true := bne_iff_ne.mpr c3
    have c3b2 : (l0.length == l1.length) = false := by first | simpa using c3 | (simp at c3 ⊢; omega)
    obtain rfl := Option.some.inj H
    go_enter Tryd.func22, Tryd.ntmps22
    go_wp2
    repeat (go_quiet (fail); try go_wp2)
    go_ret
    exact ⟨by first | rfl | (simp; done) | (simp [*]; done), by repeat (first | exact Drawn0.refl _ | apply Drawn0.step)⟩
def cachepotbook_SameInts.l0 : Nat → List Int → List Int → Int → Option (Bool)
  | 0, _, _, _ => none
  | k + 1, x0, x1, x5 => if x5 < (x0.length : Int) then (if 0 ≤ x5 then (if x5 < (x1.length : Int) then (if (rd x0 x5) = (rd x1 x5) then (cachepotbook_SameInts.l0 k x0 x1 (wrap64 (x5 + 1))) else (some false)) else (none)) else (none)) else (some true)
def cachepotbook_SameInts.f (k : Nat) (l0 : List Int) (l1 : List Int) : Option (Bool) := if (l0.length : Int) = (l1.length : Int) then (cachepotbook_SameInts.l0 k l0 l1 0) else (some false)
set_option maxHeartbeats 8000000 in
set_option maxRecDepth 100000 in
theorem cachepotbook_SameInts.calls (k : Nat) (A0 : Option Addr) (c0 : Nat) (l0 : List Int) (A1 : Option Addr) (c1 : Nat) (l1 : List Int) (r : Bool) (w : World) (hr0 : Kd.C (Kd.int .i64) w A0 l0.length l0) (hc0 : l0.length ≤ c0) (hr1 : Kd.C (Kd.int .i64) w A1 l1.length l1) (hc1 : l1.length ≤ c1) (h : cachepotbook_SameInts.f k l0 l1 = some r) :
    Calls Tryd.prog 84 #[.slice A0 l0.length c0, .slice A1 l1.length c1] w fun e w' => e = .returned (.bool r) ∧ Drawn0 w w' := by
  have HR0 := Aside0.mk hr0
  have HC0 := Aside0.mk hc0
  clear hr0 hc0
  have HR1 := Aside0.mk hr1
  have HC1 := Aside0.mk hc1
  clear hr1 hc1
  have H : (if (l0.length : Int) = (l1.length : Int) then (cachepotbook_SameInts.l0 k l0 l1 0) else (some false)) = some r := h
  clear h
  by_cases c3 : (l0.length : Int) = (l1.length : Int)
  · rw [if_pos c3] at H
    have c3b0 : ((l0.length : Int) == (l1.length : Int)) = true := beq_iff_eq.mpr c3
    have c3b1 : ((l0.length : Int) != (l1.length : Int)) = false := bne_eq_false_iff_eq.mpr c3
    have c3b2 : (l0.length == l1.length) = true := by first | simpa using c3 | (simp at c3 ⊢; omega)
    clear c3
    have H' := Aside0.mk H
    clear H
    go_enter Tryd.func84, Tryd.ntmps84
    go_wp2
    repeat (go_quiet (fail); try go_wp2)
    go_loopg [5] k (fun kq v5 w' => ∃ (x5_1 : Int), v5 = .int .i64 x5_1 ∧ Aside0 (cachepotbook_SameInts.l0 kq l0 l1 x5_1 = some r) ∧ Aside0 (kq ≤ k) ∧ Drawn0 w w')
    case atStart => exact ⟨(0), (by first | rfl | (simp; done) | (simp [*]; done)), H', ⟨Nat.le_refl _⟩, by repeat (first | exact Drawn0.refl _ | apply Drawn0.step)⟩
    case round =>
      clear H'
      try clear c1
      try clear p2
      try clear c3
      try clear c3b0
      try clear c3b1
      try clear c3b2
      obtain ⟨x5_1, rfl, HA, HK1, ⟨m1, rfl⟩⟩ := hrel
      cases gk with
      | zero => exact absurd HA.out (by simp [cachepotbook_SameInts.l0])
      | succ k1 =>
        have H := HA.out
        clear HA
        simp only [cachepotbook_SameInts.l0] at H
        by_cases c4 : x5_1 < (l0.length : Int)
        · rw [if_pos c4] at H
          have c4b0 : decide (x5_1 < (l0.length : Int)) = true := decide_eq_true c4
          clear c4
          by_cases c5 : 0 ≤ x5_1
          · rw [if_pos c5] at H
            have c5b0 : decide (0 ≤ x5_1) = true := decide_eq_true c5
            clear c5
            by_cases c6 : x5_1 < (l1.length : Int)
            · rw [if_pos c6] at H
              have c6b0 : decide (x5_1 < (l1.length : Int)) = true := decide_eq_true c6
              clear c6
              by_cases c7 : (rd l0 x5_1) = (rd l1 x5_1)
              · rw [if_pos c7] at H
                have c7b0 : ((rd l0 x5_1) == (rd l1 x5_1)) = true := beq_iff_eq.mpr c7
                have c7b1 : ((rd l0 x5_1) != (rd l1 x5_1)) = false := bne_eq_false_iff_eq.mpr c7
                clear c7
                have H' := Aside0.mk H
                clear H
                have p134 : 0 ≤ (x5_1 : Int) := of_decide_eq_true (by first | (with_reducible assumption) | assumption)
                have q134 : x5_1 < (l0.length : Int) := of_decide_eq_true (by first | (with_reducible assumption) | assumption)
                obtain ⟨ad134, e134, hx134_0⟩ := Kd.at_int HR0.out x5_1 p134 q134
                cases e134
                replace p134 := eq_true p134
                replace q134 := eq_true q134
                have p135 : 0 ≤ (x5_1 : Int) := of_decide_eq_true (by first | (with_reducible assumption) | assumption)
                have q135 : x5_1 < (l1.length : Int) := of_decide_eq_true (by first | (with_reducible assumption) | assumption)
                obtain ⟨ad135, e135, hx135_0⟩ := Kd.at_int HR1.out x5_1 p135 q135
                cases e135
                replace p135 := eq_true p135
                replace q135 := eq_true q135
                go_wp2
                repeat (go_quiet (fail); try go_wp2)
                go_roundg k1
                case measure => have := HK1.out; omega
                case rel => exact ⟨(wrap64 (x5_1 + 1)), (by first | rfl | (simp; done) | (simp [*]; done)), H', ⟨by have := HK1.out; omega⟩, by repeat (first | exact Drawn0.refl _ | apply Drawn0.step)⟩
              · rw [if_neg c7] at H
                have c7b0 : ((rd l0 x5_1) == (rd l1 x5_1)) = false := beq_eq_false_iff_ne.mpr c7
                have c7b1 : ((rd l0 x5_1) != (rd l1 x5_1)) = true := bne_iff_ne.mpr c7
                obtain rfl := Option.some.inj H
                have p134 : 0 ≤ (x5_1 : Int) := of_decide_eq_true (by first | (with_reducible assumption) | assumption)
                have q134 : x5_1 < (l0.length : Int) := of_decide_eq_true (by first | (with_reducible assumption) | assumption)
                obtain ⟨ad134, e134, hx134_0⟩ := Kd.at_int HR0.out x5_1 p134 q134
                cases e134
                replace p134 := eq_true p134
                replace q134 := eq_true q134
                have p135 : 0 ≤ (x5_1 : Int) := of_decide_eq_true (by first | (with_reducible assumption) | assumption)
                have q135 : x5_1 < (l1.length : Int) := of_decide_eq_true (by first | (with_reducible assumption) | assumption)
                obtain ⟨ad135, e135, hx135_0⟩ := Kd.at_int HR1.out x5_1 p135 q135
                cases e135
                replace p135 := eq_true p135
                replace q135 := eq_true q135
                go_wp2
                repeat (go_quiet (fail); try go_wp2)
                go_ret
                exact ⟨by first | rfl | (simp; done) | (simp [*]; done), by repeat (first | exact Drawn0.refl _ | apply Drawn0.step)⟩
            · rw [if_neg c6] at H
              exact absurd H (by simp)
          · rw [if_neg c5] at H
            exact absurd H (by simp)
        · rw [if_neg c4] at H
          have c4b0 : decide (x5_1 < (l0.length : Int)) = false := decide_eq_false c4
          clear c4
          obtain rfl := Option.some.inj H
          go_wp2
          repeat (go_quiet (fail); try go_wp2)
          go_ret
          exact ⟨by first | rfl | (simp; done) | (simp [*]; done), by repeat (first | exact Drawn0.refl _ | apply Drawn0.step)⟩
  · rw [if_neg c3] at H
    have c3b0 : ((l0.length : Int) == (l1.length : Int)) = false := beq_eq_false_iff_ne.mpr c3
    have c3b1 : ((l0.length : Int) != (l1.length : Int)) = true := bne_iff_ne.mpr c3
    have c3b2 : (l0.length == l1.length) = false := by first | simpa using c3 | (simp at c3 ⊢; omega)
    obtain rfl := Option.some.inj H
    go_enter Tryd.func84, Tryd.ntmps84
    go_wp2
    repeat (go_quiet (fail); try go_wp2)
    go_ret
    exact ⟨by first | rfl | (simp; done) | (simp [*]; done), by repeat (first | exact Drawn0.refl _ | apply Drawn0.step)⟩
def cachepotbook_SameOp.f (k : Nat) (a0_0 : Int) (a0_1 : Int) (a0_2 : ByteArray) (a0_3 : ByteArray) (l0_4 : List ByteArray) (a0_5 : Int) (l0_6 : List Int) (a0_7 : Int) (a0_8 : Int) (a0_9 : Int) (a1_0 : Int) (a1_1 : Int) (a1_2 : ByteArray) (a1_3 : ByteArray) (l1_4 : List ByteArray) (a1_5 : Int) (l1_6 : List Int) (a1_7 : Int) (a1_8 : Int) (a1_9 : Int) : Option (Bool) := if a0_0 = a1_0 then (if a0_1 = a1_1 then (if a0_2.toList = a1_2.toList then (if a0_3.toList = a1_3.toList then (if a0_5 = a1_5 then (if a0_7 = a1_7 then (if a0_8 = a1_8 then (if a0_9 = a1_9 then ((cachepotbook_SameInts.f k l0_6 l1_6).bind fun t138 => (if t138 = true then ((cachepotbook_SameTexts.f k l0_4 l1_4).bind fun t139 => (some t139)) else (some false))) else (some false)) else (some false)) else (some false)) else (some false)) else (some false)) else (some false)) else (some false)) else (some false)
set_option maxHeartbeats 8000000 in
set_option maxRecDepth 100000 in
theorem cachepotbook_SameOp.calls (k : Nat) (a0_0 : Int) (a0_1 : Int) (a0_2 : ByteArray) (a0_3 : ByteArray) (A0_4 : Option Addr) (c0_4 : Nat) (l0_4 : List ByteArray) (a0_5 : Int) (A0_6 : Option Addr) (c0_6 : Nat) (l0_6 : List Int) (a0_7 : Int) (a0_8 : Int) (a0_9 : Int) (a1_0 : Int) (a1_1 : Int) (a1_2 : ByteArray) (a1_3 : ByteArray) (A1_4 : Option Addr) (c1_4 : Nat) (l1_4 : List ByteArray) (a1_5 : Int) (A1_6 : Option Addr) (c1_6 : Nat) (l1_6 : List Int) (a1_7 : Int) (a1_8 : Int) (a1_9 : Int) (r : Bool) (w : World) (hr0_4 : Kd.C Kd.string w A0_4 l0_4.length l0_4) (hc0_4 : l0_4.length ≤ c0_4) (hr0_6 : Kd.C (Kd.int .i64) w A0_6 l0_6.length l0_6) (hc0_6 : l0_6.length ≤ c0_6) (hr1_4 : Kd.C Kd.string w A1_4 l1_4.length l1_4) (hc1_4 : l1_4.length ≤ c1_4) (hr1_6 : Kd.C (Kd.int .i64) w A1_6 l1_6.length l1_6) (hc1_6 : l1_6.length ≤ c1_6) (h : cachepotbook_SameOp.f k a0_0 a0_1 a0_2 a0_3 l0_4 a0_5 l0_6 a0_7 a0_8 a0_9 a1_0 a1_1 a1_2 a1_3 l1_4 a1_5 l1_6 a1_7 a1_8 a1_9 = some r) :
    Calls Tryd.prog 45 #[.agg #[.int .i64 a0_0, .int .i64 a0_1, .string a0_2, .string a0_3, .slice A0_4 l0_4.length c0_4, .int .i64 a0_5, .slice A0_6 l0_6.length c0_6, .int .i64 a0_7, .int .i64 a0_8, .int .i64 a0_9], .agg #[.int .i64 a1_0, .int .i64 a1_1, .string a1_2, .string a1_3, .slice A1_4 l1_4.length c1_4, .int .i64 a1_5, .slice A1_6 l1_6.length c1_6, .int .i64 a1_7, .int .i64 a1_8, .int .i64 a1_9]] w fun e w' => e = .returned (.bool r) ∧ Below w.heap.size w w' := by
  have hu61 := Tryd.underlying61
  have HR0_4 := Aside0.mk hr0_4
  have HC0_4 := Aside0.mk hc0_4
  clear hr0_4 hc0_4
  have HR0_6 := Aside0.mk hr0_6
  have HC0_6 := Aside0.mk hc0_6
  clear hr0_6 hc0_6
  have HR1_4 := Aside0.mk hr1_4
  have HC1_4 := Aside0.mk hc1_4
  clear hr1_4 hc1_4
  have HR1_6 := Aside0.mk hr1_6
  have HC1_6 := Aside0.mk hc1_6
  clear hr1_6 hc1_6
  have HB := Aside0.mk (Below.refl w.heap.size w)
  have H : (if a0_0 = a1_0 then (if a0_1 = a1_1 then (if a0_2.toList = a1_2.toList then (if a0_3.toList = a1_3.toList then (if a0_5 = a1_5 then (if a0_7 = a1_7 then (if a0_8 = a1_8 then (if a0_9 = a1_9 then ((cachepotbook_SameInts.f k l0_6 l1_6).bind fun t138 => (if t138 = true then ((cachepotbook_SameTexts.f k l0_4 l1_4).bind fun t139 => (some t139)) else (some false))) else (some false)) else (some false)) else (some false)) else (some false)) else (some false)) else (some false)) else (some false)) else (some false)) = some r := h
  clear h
  by_cases c3 : a0_0 = a1_0
  · rw [if_pos c3] at H
    have c3b0 : (a0_0 == a1_0) = true := beq_iff_eq.mpr c3
    have c3b1 : (a0_0 != a1_0) = false := bne_eq_false_iff_eq.mpr c3
    clear c3
    by_cases c4 : a0_1 = a1_1
    · rw [if_pos c4] at H
      have c4b0 : (a0_1 == a1_1) = true := beq_iff_eq.mpr c4
      have c4b1 : (a0_1 != a1_1) = false := bne_eq_false_iff_eq.mpr c4
      clear c4
      by_cases c5 : a0_2.toList = a1_2.toList
      · rw [if_pos c5] at H
        have c5b0 : (a0_2.toList == a1_2.toList) = true := beq_iff_eq.mpr c5
        have c5b1 : (a0_2.toList != a1_2.toList) = false := bne_eq_false_iff_eq.mpr c5
        clear c5
        by_cases c6 : a0_3.toList = a1_3.toList
        · rw [if_pos c6] at H
          have c6b0 : (a0_3.toList == a1_3.toList) = true := beq_iff_eq.mpr c6
          have c6b1 : (a0_3.toList != a1_3.toList) = false := bne_eq_false_iff_eq.mpr c6
          clear c6
          by_cases c7 : a0_5 = a1_5
          · rw [if_pos c7] at H
            have c7b0 : (a0_5 == a1_5) = true := beq_iff_eq.mpr c7
            have c7b1 : (a0_5 != a1_5) = false := bne_eq_false_iff_eq.mpr c7
            clear c7
            by_cases c8 : a0_7 = a1_7
            · rw [if_pos c8] at H
              have c8b0 : (a0_7 == a1_7) = true := beq_iff_eq.mpr c8
              have c8b1 : (a0_7 != a1_7) = false := bne_eq_false_iff_eq.mpr c8
              clear c8
              by_cases c9 : a0_8 = a1_8
              · rw [if_pos c9] at H
                have c9b0 : (a0_8 == a1_8) = true := beq_iff_eq.mpr c9
                have c9b1 : (a0_8 != a1_8) = false := bne_eq_false_iff_eq.mpr c9
                clear c9
                by_cases c10 : a0_9 = a1_9
                · rw [if_pos c10] at H
                  have c10b0 : (a0_9 == a1_9) = true := beq_iff_eq.mpr c10
                  have c10b1 : (a0_9 != a1_9) = false := bne_eq_false_iff_eq.mpr c10
                  clear c10
                  replace H := Option.bind_eq_some_iff.mp H
                  obtain ⟨t138, A110, H⟩ := H
                  replace H : (if t138 = true then ((cachepotbook_SameTexts.f k l0_4 l1_4).bind fun t139 => (some t139)) else (some false)) = some r := H
                  have A11 := Aside0.mk A110
                  clear A110
                  by_cases c12 : t138 = true
                  · subst c12
                    have H1 : ((cachepotbook_SameTexts.f k l0_4 l1_4).bind fun t139 => (some t139)) = some r := by rw [if_pos rfl] at H; exact H
                    clear H
                    have H := H1
                    clear H1
                    replace H := Option.bind_eq_some_iff.mp H
                    obtain ⟨t139, A130, H⟩ := H
                    replace H : (some t139) = some r := H
                    have A13 := Aside0.mk A130
                    clear A130
                    obtain rfl := Option.some.inj H
                    go_enter Tryd.func45, Tryd.ntmps45
                    go_wp2_with (first | ((with_reducible refine gate_dst (N := 2) rfl ?_); refine box_event ?hg (N := 2) ?hd (cs := #[.int .i64 a0_0, .int .i64 a0_1, .string a0_2, .string a0_3, .slice A0_4 l0_4.length c0_4, .int .i64 a0_5, .slice A0_6 l0_6.length c0_6, .int .i64 a0_7, .int .i64 a0_8, .int .i64 a0_9]) (t := 61) ?hr ?_; (case hd => rfl); (case hg => rfl); (case hr => first | (go_simp; done) | (go_simp; rfl)); intro gb136 hg w14 hbox hb; have n0_ := Aside0.mk (below_step (by repeat (first | (with_reducible first | exact HB.out | apply below_alloc | apply pw_below_drewN | apply below_drew1) | exact HB.out)) hb); have n1_ := Aside0.mk (hbox); have n2_ := Aside0.mk ((by rw [hg]; exact (below_size (by repeat (first | (with_reducible first | exact HB.out | apply below_alloc | apply pw_below_drewN | apply below_drew1) | exact HB.out))) : w.heap.size ≤ gb136)); have n3_ := Aside0.mk ((by rw [hg]; exact (below_size (by repeat (first | (with_reducible first | exact HB.out | apply below_alloc | apply pw_below_drewN | apply below_drew1) | exact HB.out))) : w.heap.size ≤ gb136)); clear HB; have HB := n0_; have BK136 := n1_; have GW136 := n2_; have GE136 := n3_; clear n0_ n1_ n2_ n3_; clear hb hbox hg) | ((with_reducible refine gate_dst (N := 3) rfl ?_); refine box_event ?hg (N := 3) ?hd (cs := #[.int .i64 a1_0, .int .i64 a1_1, .string a1_2, .string a1_3, .slice A1_4 l1_4.length c1_4, .int .i64 a1_5, .slice A1_6 l1_6.length c1_6, .int .i64 a1_7, .int .i64 a1_8, .int .i64 a1_9]) (t := 61) ?hr ?_; (case hd => rfl); (case hg => rfl); (case hr => first | (go_simp; done) | (go_simp; rfl)); intro gb137 hg w15 hbox hb; have n0_ := Aside0.mk (blk_below (g := gb136) (o := .cells #[.int .i64 a0_0, .int .i64 a0_1, .string a0_2, .string a0_3, .slice A0_4 l0_4.length c0_4, .int .i64 a0_5, .slice A0_6 l0_6.length c0_6, .int .i64 a0_7, .int .i64 a0_8, .int .i64 a0_9] 61 (0, 0)) (by (with_reducible repeat (first | refine blk_drewN ?_ _ | refine blk_drew ?_ | refine blk_alloc ?_ _)); exact BK136.out) hb); have n1_ := Aside0.mk (below_step (by repeat (first | (with_reducible first | exact HB.out | apply below_alloc | apply pw_below_drewN | apply below_drew1 | refine below_set ?_ GE136.out) | exact HB.out)) hb); have n2_ := Aside0.mk (hbox); have n3_ := Aside0.mk ((by rw [hg]; exact (below_size (by repeat (first | (with_reducible first | exact HB.out | apply below_alloc | apply pw_below_drewN | apply below_drew1 | refine below_set ?_ GE136.out) | exact HB.out))) : w.heap.size ≤ gb137)); have n4_ := Aside0.mk ((by rw [hg]; exact (below_size (by repeat (first | (with_reducible first | exact HB.out | apply below_alloc | apply pw_below_drewN | apply below_drew1 | refine below_set ?_ GE136.out) | exact HB.out))) : w.heap.size ≤ gb137)); have n5_ := Aside0.mk ((by rw [hg]; exact Nat.ne_of_lt (blk_lt (g := gb136) (o := .cells #[.int .i64 a0_0, .int .i64 a0_1, .string a0_2, .string a0_3, .slice A0_4 l0_4.length c0_4, .int .i64 a0_5, .slice A0_6 l0_6.length c0_6, .int .i64 a0_7, .int .i64 a0_8, .int .i64 a0_9] 61 (0, 0)) (by (with_reducible repeat (first | refine blk_drewN ?_ _ | refine blk_drew ?_ | refine blk_alloc ?_ _)); exact BK136.out)) : gb136 ≠ gb137)); have n6_ := Aside0.mk ((by rw [hg]; exact Nat.ne_of_gt (blk_lt (g := gb136) (o := .cells #[.int .i64 a0_0, .int .i64 a0_1, .string a0_2, .string a0_3, .slice A0_4 l0_4.length c0_4, .int .i64 a0_5, .slice A0_6 l0_6.length c0_6, .int .i64 a0_7, .int .i64 a0_8, .int .i64 a0_9] 61 (0, 0)) (by (with_reducible repeat (first | refine blk_drewN ?_ _ | refine blk_drew ?_ | refine blk_alloc ?_ _)); exact BK136.out)) : gb137 ≠ gb136)); clear BK136; clear HB; have BK136 := n0_; have HB := n1_; have BK137 := n2_; have GW137 := n3_; have GE137 := n4_; have NB136_137 := n5_; have NB137_136 := n6_; clear n0_ n1_ n2_ n3_ n4_ n5_ n6_; clear hb hbox hg; have hnb16 := NB136_137.out; have hnc16 := NB137_136.out; have hcz17_0 : w15.cell? ⟨gb136, 0, none⟩ = some (.int .i64 a0_0) := (blk_cell BK136.out 0).trans rfl; have hcz17_1 : w15.cell? ⟨gb136, 1, none⟩ = some (.int .i64 a0_1) := (blk_cell BK136.out 1).trans rfl; have hcz17_2 : w15.cell? ⟨gb136, 2, none⟩ = some (.string a0_2) := (blk_cell BK136.out 2).trans rfl; have hcz17_3 : w15.cell? ⟨gb136, 3, none⟩ = some (.string a0_3) := (blk_cell BK136.out 3).trans rfl; have hcz17_4 : w15.cell? ⟨gb136, 4, none⟩ = some (.slice A0_4 l0_4.length c0_4) := (blk_cell BK136.out 4).trans rfl; have hcz17_5 : w15.cell? ⟨gb136, 5, none⟩ = some (.int .i64 a0_5) := (blk_cell BK136.out 5).trans rfl; have hcz17_6 : w15.cell? ⟨gb136, 6, none⟩ = some (.slice A0_6 l0_6.length c0_6) := (blk_cell BK136.out 6).trans rfl; have hcz17_7 : w15.cell? ⟨gb136, 7, none⟩ = some (.int .i64 a0_7) := (blk_cell BK136.out 7).trans rfl; have hcz17_8 : w15.cell? ⟨gb136, 8, none⟩ = some (.int .i64 a0_8) := (blk_cell BK136.out 8).trans rfl; have hcz17_9 : w15.cell? ⟨gb136, 9, none⟩ = some (.int .i64 a0_9) := (blk_cell BK136.out 9).trans rfl; have hfz17_0 := blk_frozen BK136.out 0; have hfz17_1 := blk_frozen BK136.out 1; have hfz17_2 := blk_frozen BK136.out 2; have hfz17_3 := blk_frozen BK136.out 3; have hfz17_4 := blk_frozen BK136.out 4; have hfz17_5 := blk_frozen BK136.out 5; have hfz17_6 := blk_frozen BK136.out 6; have hfz17_7 := blk_frozen BK136.out 7; have hfz17_8 := blk_frozen BK136.out 8; have hfz17_9 := blk_frozen BK136.out 9; have hcz18_0 : w15.cell? ⟨gb137, 0, none⟩ = some (.int .i64 a1_0) := (blk_cell BK137.out 0).trans rfl; have hcz18_1 : w15.cell? ⟨gb137, 1, none⟩ = some (.int .i64 a1_1) := (blk_cell BK137.out 1).trans rfl; have hcz18_2 : w15.cell? ⟨gb137, 2, none⟩ = some (.string a1_2) := (blk_cell BK137.out 2).trans rfl; have hcz18_3 : w15.cell? ⟨gb137, 3, none⟩ = some (.string a1_3) := (blk_cell BK137.out 3).trans rfl; have hcz18_4 : w15.cell? ⟨gb137, 4, none⟩ = some (.slice A1_4 l1_4.length c1_4) := (blk_cell BK137.out 4).trans rfl; have hcz18_5 : w15.cell? ⟨gb137, 5, none⟩ = some (.int .i64 a1_5) := (blk_cell BK137.out 5).trans rfl; have hcz18_6 : w15.cell? ⟨gb137, 6, none⟩ = some (.slice A1_6 l1_6.length c1_6) := (blk_cell BK137.out 6).trans rfl; have hcz18_7 : w15.cell? ⟨gb137, 7, none⟩ = some (.int .i64 a1_7) := (blk_cell BK137.out 7).trans rfl; have hcz18_8 : w15.cell? ⟨gb137, 8, none⟩ = some (.int .i64 a1_8) := (blk_cell BK137.out 8).trans rfl; have hcz18_9 : w15.cell? ⟨gb137, 9, none⟩ = some (.int .i64 a1_9) := (blk_cell BK137.out 9).trans rfl; have hfz18_0 := blk_frozen BK137.out 0; have hfz18_1 := blk_frozen BK137.out 1; have hfz18_2 := blk_frozen BK137.out 2; have hfz18_3 := blk_frozen BK137.out 3; have hfz18_4 := blk_frozen BK137.out 4; have hfz18_5 := blk_frozen BK137.out 5; have hfz18_6 := blk_frozen BK137.out 6; have hfz18_7 := blk_frozen BK137.out 7; have hfz18_8 := blk_frozen BK137.out 8; have hfz18_9 := blk_frozen BK137.out 9) | (go_at_call 84; (with_reducible refine (cachepotbook_SameInts.calls k _ _ l0_6 _ _ l1_6 true _ ?side1 ?side2 ?side3 ?side4 A11.out).mono ?_); (case side1 => repeat (first | exact (Kd.C_below HR0_6.out HB.out) | (with_reducible refine Kd.C_alloc ?_ _) | (with_reducible refine Kd.C_drewN ?_ _) | (with_reducible refine Kd.C_drew ?_))); (case side2 => exact HC0_6.out); (case side3 => repeat (first | exact (Kd.C_below HR1_6.out HB.out) | (with_reducible refine Kd.C_alloc ?_ _) | (with_reducible refine Kd.C_drewN ?_ _) | (with_reducible refine Kd.C_drew ?_))); (case side4 => exact HC1_6.out); rintro e w' ⟨rfl, ⟨nd, rfl⟩⟩) | (go_at_call 22; (with_reducible refine (cachepotbook_SameTexts.calls k _ _ l0_4 _ _ l1_4 t139 _ ?side1 ?side2 ?side3 ?side4 A13.out).mono ?_); (case side1 => repeat (first | exact (Kd.C_below HR0_4.out (by repeat (first | (with_reducible first | exact HB.out | apply below_alloc | apply pw_below_drewN | apply below_drew1 | refine below_set ?_ GE136.out | refine below_set ?_ GE137.out) | exact HB.out))) | (with_reducible refine Kd.C_alloc ?_ _) | (with_reducible refine Kd.C_drewN ?_ _) | (with_reducible refine Kd.C_drew ?_))); (case side2 => exact HC0_4.out); (case side3 => repeat (first | exact (Kd.C_below HR1_4.out (by repeat (first | (with_reducible first | exact HB.out | apply below_alloc | apply pw_below_drewN | apply below_drew1 | refine below_set ?_ GE136.out | refine below_set ?_ GE137.out) | exact HB.out))) | (with_reducible refine Kd.C_alloc ?_ _) | (with_reducible refine Kd.C_drewN ?_ _) | (with_reducible refine Kd.C_drew ?_))); (case side4 => exact HC1_4.out); rintro e w' ⟨rfl, ⟨nd, rfl⟩⟩))
                    go_ret
                    exact ⟨by first | rfl | (simp [errW_none, errW_some] <;> rfl) | (simp [*, errW_none, errW_some] <;> rfl), by repeat (first | (with_reducible first | exact HB.out | apply below_alloc | apply pw_below_drewN | apply below_drew1 | refine below_set ?_ GE136.out | refine below_set ?_ GE137.out) | exact HB.out)⟩
                  · replace c12 := Bool.eq_false_iff.mpr c12
                    subst c12
                    have H1 : (some false) = some r := by rw [if_neg (show ¬ (false = true) by decide)] at H; exact H
                    clear H
                    have H := H1
                    clear H1
                    obtain rfl := Option.some.inj H
                    go_enter Tryd.func45, Tryd.ntmps45
                    go_wp2_with (first | ((with_reducible refine gate_dst (N := 2) rfl ?_); refine box_event ?hg (N := 2) ?hd (cs := #[.int .i64 a0_0, .int .i64 a0_1, .string a0_2, .string a0_3, .slice A0_4 l0_4.length c0_4, .int .i64 a0_5, .slice A0_6 l0_6.length c0_6, .int .i64 a0_7, .int .i64 a0_8, .int .i64 a0_9]) (t := 61) ?hr ?_; (case hd => rfl); (case hg => rfl); (case hr => first | (go_simp; done) | (go_simp; rfl)); intro gb136 hg w19 hbox hb; have n0_ := Aside0.mk (below_step (by repeat (first | (with_reducible first | exact HB.out | apply below_alloc | apply pw_below_drewN | apply below_drew1) | exact HB.out)) hb); have n1_ := Aside0.mk (hbox); have n2_ := Aside0.mk ((by rw [hg]; exact (below_size (by repeat (first | (with_reducible first | exact HB.out | apply below_alloc | apply pw_below_drewN | apply below_drew1) | exact HB.out))) : w.heap.size ≤ gb136)); have n3_ := Aside0.mk ((by rw [hg]; exact (below_size (by repeat (first | (with_reducible first | exact HB.out | apply below_alloc | apply pw_below_drewN | apply below_drew1) | exact HB.out))) : w.heap.size ≤ gb136)); clear HB; have HB := n0_; have BK136 := n1_; have GW136 := n2_; have GE136 := n3_; clear n0_ n1_ n2_ n3_; clear hb hbox hg) | ((with_reducible refine gate_dst (N := 3) rfl ?_); refine box_event ?hg (N := 3) ?hd (cs := #[.int .i64 a1_0, .int .i64 a1_1, .string a1_2, .string a1_3, .slice A1_4 l1_4.length c1_4, .int .i64 a1_5, .slice A1_6 l1_6.length c1_6, .int .i64 a1_7, .int .i64 a1_8, .int .i64 a1_9]) (t := 61) ?hr ?_; (case hd => rfl); (case hg => rfl); (case hr => first | (go_simp; done) | (go_simp; rfl)); intro gb137 hg w20 hbox hb; have n0_ := Aside0.mk (blk_below (g := gb136) (o := .cells #[.int .i64 a0_0, .int .i64 a0_1, .string a0_2, .string a0_3, .slice A0_4 l0_4.length c0_4, .int .i64 a0_5, .slice A0_6 l0_6.length c0_6, .int .i64 a0_7, .int .i64 a0_8, .int .i64 a0_9] 61 (0, 0)) (by (with_reducible repeat (first | refine blk_drewN ?_ _ | refine blk_drew ?_ | refine blk_alloc ?_ _)); exact BK136.out) hb); have n1_ := Aside0.mk (below_step (by repeat (first | (with_reducible first | exact HB.out | apply below_alloc | apply pw_below_drewN | apply below_drew1 | refine below_set ?_ GE136.out) | exact HB.out)) hb); have n2_ := Aside0.mk (hbox); have n3_ := Aside0.mk ((by rw [hg]; exact (below_size (by repeat (first | (with_reducible first | exact HB.out | apply below_alloc | apply pw_below_drewN | apply below_drew1 | refine below_set ?_ GE136.out) | exact HB.out))) : w.heap.size ≤ gb137)); have n4_ := Aside0.mk ((by rw [hg]; exact (below_size (by repeat (first | (with_reducible first | exact HB.out | apply below_alloc | apply pw_below_drewN | apply below_drew1 | refine below_set ?_ GE136.out) | exact HB.out))) : w.heap.size ≤ gb137)); have n5_ := Aside0.mk ((by rw [hg]; exact Nat.ne_of_lt (blk_lt (g := gb136) (o := .cells #[.int .i64 a0_0, .int .i64 a0_1, .string a0_2, .string a0_3, .slice A0_4 l0_4.length c0_4, .int .i64 a0_5, .slice A0_6 l0_6.length c0_6, .int .i64 a0_7, .int .i64 a0_8, .int .i64 a0_9] 61 (0, 0)) (by (with_reducible repeat (first | refine blk_drewN ?_ _ | refine blk_drew ?_ | refine blk_alloc ?_ _)); exact BK136.out)) : gb136 ≠ gb137)); have n6_ := Aside0.mk ((by rw [hg]; exact Nat.ne_of_gt (blk_lt (g := gb136) (o := .cells #[.int .i64 a0_0, .int .i64 a0_1, .string a0_2, .string a0_3, .slice A0_4 l0_4.length c0_4, .int .i64 a0_5, .slice A0_6 l0_6.length c0_6, .int .i64 a0_7, .int .i64 a0_8, .int .i64 a0_9] 61 (0, 0)) (by (with_reducible repeat (first | refine blk_drewN ?_ _ | refine blk_drew ?_ | refine blk_alloc ?_ _)); exact BK136.out)) : gb137 ≠ gb136)); clear BK136; clear HB; have BK136 := n0_; have HB := n1_; have BK137 := n2_; have GW137 := n3_; have GE137 := n4_; have NB136_137 := n5_; have NB137_136 := n6_; clear n0_ n1_ n2_ n3_ n4_ n5_ n6_; clear hb hbox hg; have hnb21 := NB136_137.out; have hnc21 := NB137_136.out; have hcz22_0 : w20.cell? ⟨gb136, 0, none⟩ = some (.int .i64 a0_0) := (blk_cell BK136.out 0).trans rfl; have hcz22_1 : w20.cell? ⟨gb136, 1, none⟩ = some (.int .i64 a0_1) := (blk_cell BK136.out 1).trans rfl; have hcz22_2 : w20.cell? ⟨gb136, 2, none⟩ = some (.string a0_2) := (blk_cell BK136.out 2).trans rfl; have hcz22_3 : w20.cell? ⟨gb136, 3, none⟩ = some (.string a0_3) := (blk_cell BK136.out 3).trans rfl; have hcz22_4 : w20.cell? ⟨gb136, 4, none⟩ = some (.slice A0_4 l0_4.length c0_4) := (blk_cell BK136.out 4).trans rfl; have hcz22_5 : w20.cell? ⟨gb136, 5, none⟩ = some (.int .i64 a0_5) := (blk_cell BK136.out 5).trans rfl; have hcz22_6 : w20.cell? ⟨gb136, 6, none⟩ = some (.slice A0_6 l0_6.length c0_6) := (blk_cell BK136.out 6).trans rfl; have hcz22_7 : w20.cell? ⟨gb136, 7, none⟩ = some (.int .i64 a0_7) := (blk_cell BK136.out 7).trans rfl; have hcz22_8 : w20.cell? ⟨gb136, 8, none⟩ = some (.int .i64 a0_8) := (blk_cell BK136.out 8).trans rfl; have hcz22_9 : w20.cell? ⟨gb136, 9, none⟩ = some (.int .i64 a0_9) := (blk_cell BK136.out 9).trans rfl; have hfz22_0 := blk_frozen BK136.out 0; have hfz22_1 := blk_frozen BK136.out 1; have hfz22_2 := blk_frozen BK136.out 2; have hfz22_3 := blk_frozen BK136.out 3; have hfz22_4 := blk_frozen BK136.out 4; have hfz22_5 := blk_frozen BK136.out 5; have hfz22_6 := blk_frozen BK136.out 6; have hfz22_7 := blk_frozen BK136.out 7; have hfz22_8 := blk_frozen BK136.out 8; have hfz22_9 := blk_frozen BK136.out 9; have hcz23_0 : w20.cell? ⟨gb137, 0, none⟩ = some (.int .i64 a1_0) := (blk_cell BK137.out 0).trans rfl; have hcz23_1 : w20.cell? ⟨gb137, 1, none⟩ = some (.int .i64 a1_1) := (blk_cell BK137.out 1).trans rfl; have hcz23_2 : w20.cell? ⟨gb137, 2, none⟩ = some (.string a1_2) := (blk_cell BK137.out 2).trans rfl; have hcz23_3 : w20.cell? ⟨gb137, 3, none⟩ = some (.string a1_3) := (blk_cell BK137.out 3).trans rfl; have hcz23_4 : w20.cell? ⟨gb137, 4, none⟩ = some (.slice A1_4 l1_4.length c1_4) := (blk_cell BK137.out 4).trans rfl; have hcz23_5 : w20.cell? ⟨gb137, 5, none⟩ = some (.int .i64 a1_5) := (blk_cell BK137.out 5).trans rfl; have hcz23_6 : w20.cell? ⟨gb137, 6, none⟩ = some (.slice A1_6 l1_6.length c1_6) := (blk_cell BK137.out 6).trans rfl; have hcz23_7 : w20.cell? ⟨gb137, 7, none⟩ = some (.int .i64 a1_7) := (blk_cell BK137.out 7).trans rfl; have hcz23_8 : w20.cell? ⟨gb137, 8, none⟩ = some (.int .i64 a1_8) := (blk_cell BK137.out 8).trans rfl; have hcz23_9 : w20.cell? ⟨gb137, 9, none⟩ = some (.int .i64 a1_9) := (blk_cell BK137.out 9).trans rfl; have hfz23_0 := blk_frozen BK137.out 0; have hfz23_1 := blk_frozen BK137.out 1; have hfz23_2 := blk_frozen BK137.out 2; have hfz23_3 := blk_frozen BK137.out 3; have hfz23_4 := blk_frozen BK137.out 4; have hfz23_5 := blk_frozen BK137.out 5; have hfz23_6 := blk_frozen BK137.out 6; have hfz23_7 := blk_frozen BK137.out 7; have hfz23_8 := blk_frozen BK137.out 8; have hfz23_9 := blk_frozen BK137.out 9) | (go_at_call 84; (with_reducible refine (cachepotbook_SameInts.calls k _ _ l0_6 _ _ l1_6 false _ ?side1 ?side2 ?side3 ?side4 A11.out).mono ?_); (case side1 => repeat (first | exact (Kd.C_below HR0_6.out HB.out) | (with_reducible refine Kd.C_alloc ?_ _) | (with_reducible refine Kd.C_drewN ?_ _) | (with_reducible refine Kd.C_drew ?_))); (case side2 => exact HC0_6.out); (case side3 => repeat (first | exact (Kd.C_below HR1_6.out HB.out) | (with_reducible refine Kd.C_alloc ?_ _) | (with_reducible refine Kd.C_drewN ?_ _) | (with_reducible refine Kd.C_drew ?_))); (case side4 => exact HC1_6.out); rintro e w' ⟨rfl, ⟨nd, rfl⟩⟩))
                    go_ret
                    exact ⟨by first | rfl | (simp [errW_none, errW_some] <;> rfl) | (simp [*, errW_none, errW_some] <;> rfl), by repeat (first | (with_reducible first | exact HB.out | apply below_alloc | apply pw_below_drewN | apply below_drew1 | refine below_set ?_ GE136.out | refine below_set ?_ GE137.out) | exact HB.out)⟩
                · rw [if_neg c10] at H
                  have c10b0 : (a0_9 == a1_9) = false := beq_eq_false_iff_ne.mpr c10
                  have c10b1 : (a0_9 != a1_9) = true := bne_iff_ne.mpr c10
                  obtain rfl := Option.some.inj H
                  go_enter Tryd.func45, Tryd.ntmps45
                  go_wp2_with (first | ((with_reducible refine gate_dst (N := 2) rfl ?_); refine box_event ?hg (N := 2) ?hd (cs := #[.int .i64 a0_0, .int .i64 a0_1, .string a0_2, .string a0_3, .slice A0_4 l0_4.length c0_4, .int .i64 a0_5, .slice A0_6 l0_6.length c0_6, .int .i64 a0_7, .int .i64 a0_8, .int .i64 a0_9]) (t := 61) ?hr ?_; (case hd => rfl); (case hg => rfl); (case hr => first | (go_simp; done) | (go_simp; rfl)); intro gb136 hg w24 hbox hb; have n0_ := Aside0.mk (below_step (by repeat (first | (with_reducible first | exact HB.out | apply below_alloc | apply pw_below_drewN | apply below_drew1) | exact HB.out)) hb); have n1_ := Aside0.mk (hbox); have n2_ := Aside0.mk ((by rw [hg]; exact (below_size (by repeat (first | (with_reducible first | exact HB.out | apply below_alloc | apply pw_below_drewN | apply below_drew1) | exact HB.out))) : w.heap.size ≤ gb136)); have n3_ := Aside0.mk ((by rw [hg]; exact (below_size (by repeat (first | (with_reducible first | exact HB.out | apply below_alloc | apply pw_below_drewN | apply below_drew1) | exact HB.out))) : w.heap.size ≤ gb136)); clear HB; have HB := n0_; have BK136 := n1_; have GW136 := n2_; have GE136 := n3_; clear n0_ n1_ n2_ n3_; clear hb hbox hg) | ((with_reducible refine gate_dst (N := 3) rfl ?_); refine box_event ?hg (N := 3) ?hd (cs := #[.int .i64 a1_0, .int .i64 a1_1, .string a1_2, .string a1_3, .slice A1_4 l1_4.length c1_4, .int .i64 a1_5, .slice A1_6 l1_6.length c1_6, .int .i64 a1_7, .int .i64 a1_8, .int .i64 a1_9]) (t := 61) ?hr ?_; (case hd => rfl); (case hg => rfl); (case hr => first | (go_simp; done) | (go_simp; rfl)); intro gb137 hg w25 hbox hb; have n0_ := Aside0.mk (blk_below (g := gb136) (o := .cells #[.int .i64 a0_0, .int .i64 a0_1, .string a0_2, .string a0_3, .slice A0_4 l0_4.length c0_4, .int .i64 a0_5, .slice A0_6 l0_6.length c0_6, .int .i64 a0_7, .int .i64 a0_8, .int .i64 a0_9] 61 (0, 0)) (by (with_reducible repeat (first | refine blk_drewN ?_ _ | refine blk_drew ?_ | refine blk_alloc ?_ _)); exact BK136.out) hb); have n1_ := Aside0.mk (below_step (by repeat (first | (with_reducible first | exact HB.out | apply below_alloc | apply pw_below_drewN | apply below_drew1 | refine below_set ?_ GE136.out) | exact HB.out)) hb); have n2_ := Aside0.mk (hbox); have n3_ := Aside0.mk ((by rw [hg]; exact (below_size (by repeat (first | (with_reducible first | exact HB.out | apply below_alloc | apply pw_below_drewN | apply below_drew1 | refine below_set ?_ GE136.out) | exact HB.out))) : w.heap.size ≤ gb137)); have n4_ := Aside0.mk ((by rw [hg]; exact (below_size (by repeat (first | (with_reducible first | exact HB.out | apply below_alloc | apply pw_below_drewN | apply below_drew1 | refine below_set ?_ GE136.out) | exact HB.out))) : w.heap.size ≤ gb137)); have n5_ := Aside0.mk ((by rw [hg]; exact Nat.ne_of_lt (blk_lt (g := gb136) (o := .cells #[.int .i64 a0_0, .int .i64 a0_1, .string a0_2, .string a0_3, .slice A0_4 l0_4.length c0_4, .int .i64 a0_5, .slice A0_6 l0_6.length c0_6, .int .i64 a0_7, .int .i64 a0_8, .int .i64 a0_9] 61 (0, 0)) (by (with_reducible repeat (first | refine blk_drewN ?_ _ | refine blk_drew ?_ | refine blk_alloc ?_ _)); exact BK136.out)) : gb136 ≠ gb137)); have n6_ := Aside0.mk ((by rw [hg]; exact Nat.ne_of_gt (blk_lt (g := gb136) (o := .cells #[.int .i64 a0_0, .int .i64 a0_1, .string a0_2, .string a0_3, .slice A0_4 l0_4.length c0_4, .int .i64 a0_5, .slice A0_6 l0_6.length c0_6, .int .i64 a0_7, .int .i64 a0_8, .int .i64 a0_9] 61 (0, 0)) (by (with_reducible repeat (first | refine blk_drewN ?_ _ | refine blk_drew ?_ | refine blk_alloc ?_ _)); exact BK136.out)) : gb137 ≠ gb136)); clear BK136; clear HB; have BK136 := n0_; have HB := n1_; have BK137 := n2_; have GW137 := n3_; have GE137 := n4_; have NB136_137 := n5_; have NB137_136 := n6_; clear n0_ n1_ n2_ n3_ n4_ n5_ n6_; clear hb hbox hg; have hnb26 := NB136_137.out; have hnc26 := NB137_136.out; have hcz27_0 : w25.cell? ⟨gb136, 0, none⟩ = some (.int .i64 a0_0) := (blk_cell BK136.out 0).trans rfl; have hcz27_1 : w25.cell? ⟨gb136, 1, none⟩ = some (.int .i64 a0_1) := (blk_cell BK136.out 1).trans rfl; have hcz27_2 : w25.cell? ⟨gb136, 2, none⟩ = some (.string a0_2) := (blk_cell BK136.out 2).trans rfl; have hcz27_3 : w25.cell? ⟨gb136, 3, none⟩ = some (.string a0_3) := (blk_cell BK136.out 3).trans rfl; have hcz27_4 : w25.cell? ⟨gb136, 4, none⟩ = some (.slice A0_4 l0_4.length c0_4) := (blk_cell BK136.out 4).trans rfl; have hcz27_5 : w25.cell? ⟨gb136, 5, none⟩ = some (.int .i64 a0_5) := (blk_cell BK136.out 5).trans rfl; have hcz27_6 : w25.cell? ⟨gb136, 6, none⟩ = some (.slice A0_6 l0_6.length c0_6) := (blk_cell BK136.out 6).trans rfl; have hcz27_7 : w25.cell? ⟨gb136, 7, none⟩ = some (.int .i64 a0_7) := (blk_cell BK136.out 7).trans rfl; have hcz27_8 : w25.cell? ⟨gb136, 8, none⟩ = some (.int .i64 a0_8) := (blk_cell BK136.out 8).trans rfl; have hcz27_9 : w25.cell? ⟨gb136, 9, none⟩ = some (.int .i64 a0_9) := (blk_cell BK136.out 9).trans rfl; have hfz27_0 := blk_frozen BK136.out 0; have hfz27_1 := blk_frozen BK136.out 1; have hfz27_2 := blk_frozen BK136.out 2; have hfz27_3 := blk_frozen BK136.out 3; have hfz27_4 := blk_frozen BK136.out 4; have hfz27_5 := blk_frozen BK136.out 5; have hfz27_6 := blk_frozen BK136.out 6; have hfz27_7 := blk_frozen BK136.out 7; have hfz27_8 := blk_frozen BK136.out 8; have hfz27_9 := blk_frozen BK136.out 9; have hcz28_0 : w25.cell? ⟨gb137, 0, none⟩ = some (.int .i64 a1_0) := (blk_cell BK137.out 0).trans rfl; have hcz28_1 : w25.cell? ⟨gb137, 1, none⟩ = some (.int .i64 a1_1) := (blk_cell BK137.out 1).trans rfl; have hcz28_2 : w25.cell? ⟨gb137, 2, none⟩ = some (.string a1_2) := (blk_cell BK137.out 2).trans rfl; have hcz28_3 : w25.cell? ⟨gb137, 3, none⟩ = some (.string a1_3) := (blk_cell BK137.out 3).trans rfl; have hcz28_4 : w25.cell? ⟨gb137, 4, none⟩ = some (.slice A1_4 l1_4.length c1_4) := (blk_cell BK137.out 4).trans rfl; have hcz28_5 : w25.cell? ⟨gb137, 5, none⟩ = some (.int .i64 a1_5) := (blk_cell BK137.out 5).trans rfl; have hcz28_6 : w25.cell? ⟨gb137, 6, none⟩ = some (.slice A1_6 l1_6.length c1_6) := (blk_cell BK137.out 6).trans rfl; have hcz28_7 : w25.cell? ⟨gb137, 7, none⟩ = some (.int .i64 a1_7) := (blk_cell BK137.out 7).trans rfl; have hcz28_8 : w25.cell? ⟨gb137, 8, none⟩ = some (.int .i64 a1_8) := (blk_cell BK137.out 8).trans rfl; have hcz28_9 : w25.cell? ⟨gb137, 9, none⟩ = some (.int .i64 a1_9) := (blk_cell BK137.out 9).trans rfl; have hfz28_0 := blk_frozen BK137.out 0; have hfz28_1 := blk_frozen BK137.out 1; have hfz28_2 := blk_frozen BK137.out 2; have hfz28_3 := blk_frozen BK137.out 3; have hfz28_4 := blk_frozen BK137.out 4; have hfz28_5 := blk_frozen BK137.out 5; have hfz28_6 := blk_frozen BK137.out 6; have hfz28_7 := blk_frozen BK137.out 7; have hfz28_8 := blk_frozen BK137.out 8; have hfz28_9 := blk_frozen BK137.out 9))
                  go_ret
                  exact ⟨by first | rfl | (simp [errW_none, errW_some] <;> rfl) | (simp [*, errW_none, errW_some] <;> rfl), by repeat (first | (with_reducible first | exact HB.out | apply below_alloc | apply pw_below_drewN | apply below_drew1 | refine below_set ?_ GE136.out | refine below_set ?_ GE137.out) | exact HB.out)⟩
              · rw [if_neg c9] at H
                have c9b0 : (a0_8 == a1_8) = false := beq_eq_false_iff_ne.mpr c9
                have c9b1 : (a0_8 != a1_8) = true := bne_iff_ne.mpr c9
                obtain rfl := Option.some.inj H
                go_enter Tryd.func45, Tryd.ntmps45
                go_wp2_with (first | ((with_reducible refine gate_dst (N := 2) rfl ?_); refine box_event ?hg (N := 2) ?hd (cs := #[.int .i64 a0_0, .int .i64 a0_1, .string a0_2, .string a0_3, .slice A0_4 l0_4.length c0_4, .int .i64 a0_5, .slice A0_6 l0_6.length c0_6, .int .i64 a0_7, .int .i64 a0_8, .int .i64 a0_9]) (t := 61) ?hr ?_; (case hd => rfl); (case hg => rfl); (case hr => first | (go_simp; done) | (go_simp; rfl)); intro gb136 hg w29 hbox hb; have n0_ := Aside0.mk (below_step (by repeat (first | (with_reducible first | exact HB.out | apply below_alloc | apply pw_below_drewN | apply below_drew1) | exact HB.out)) hb); have n1_ := Aside0.mk (hbox); have n2_ := Aside0.mk ((by rw [hg]; exact (below_size (by repeat (first | (with_reducible first | exact HB.out | apply below_alloc | apply pw_below_drewN | apply below_drew1) | exact HB.out))) : w.heap.size ≤ gb136)); have n3_ := Aside0.mk ((by rw [hg]; exact (below_size (by repeat (first | (with_reducible first | exact HB.out | apply below_alloc | apply pw_below_drewN | apply below_drew1) | exact HB.out))) : w.heap.size ≤ gb136)); clear HB; have HB := n0_; have BK136 := n1_; have GW136 := n2_; have GE136 := n3_; clear n0_ n1_ n2_ n3_; clear hb hbox hg) | ((with_reducible refine gate_dst (N := 3) rfl ?_); refine box_event ?hg (N := 3) ?hd (cs := #[.int .i64 a1_0, .int .i64 a1_1, .string a1_2, .string a1_3, .slice A1_4 l1_4.length c1_4, .int .i64 a1_5, .slice A1_6 l1_6.length c1_6, .int .i64 a1_7, .int .i64 a1_8, .int .i64 a1_9]) (t := 61) ?hr ?_; (case hd => rfl); (case hg => rfl); (case hr => first | (go_simp; done) | (go_simp; rfl)); intro gb137 hg w30 hbox hb; have n0_ := Aside0.mk (blk_below (g := gb136) (o := .cells #[.int .i64 a0_0, .int .i64 a0_1, .string a0_2, .string a0_3, .slice A0_4 l0_4.length c0_4, .int .i64 a0_5, .slice A0_6 l0_6.length c0_6, .int .i64 a0_7, .int .i64 a0_8, .int .i64 a0_9] 61 (0, 0)) (by (with_reducible repeat (first | refine blk_drewN ?_ _ | refine blk_drew ?_ | refine blk_alloc ?_ _)); exact BK136.out) hb); have n1_ := Aside0.mk (below_step (by repeat (first | (with_reducible first | exact HB.out | apply below_alloc | apply pw_below_drewN | apply below_drew1 | refine below_set ?_ GE136.out) | exact HB.out)) hb); have n2_ := Aside0.mk (hbox); have n3_ := Aside0.mk ((by rw [hg]; exact (below_size (by repeat (first | (with_reducible first | exact HB.out | apply below_alloc | apply pw_below_drewN | apply below_drew1 | refine below_set ?_ GE136.out) | exact HB.out))) : w.heap.size ≤ gb137)); have n4_ := Aside0.mk ((by rw [hg]; exact (below_size (by repeat (first | (with_reducible first | exact HB.out | apply below_alloc | apply pw_below_drewN | apply below_drew1 | refine below_set ?_ GE136.out) | exact HB.out))) : w.heap.size ≤ gb137)); have n5_ := Aside0.mk ((by rw [hg]; exact Nat.ne_of_lt (blk_lt (g := gb136) (o := .cells #[.int .i64 a0_0, .int .i64 a0_1, .string a0_2, .string a0_3, .slice A0_4 l0_4.length c0_4, .int .i64 a0_5, .slice A0_6 l0_6.length c0_6, .int .i64 a0_7, .int .i64 a0_8, .int .i64 a0_9] 61 (0, 0)) (by (with_reducible repeat (first | refine blk_drewN ?_ _ | refine blk_drew ?_ | refine blk_alloc ?_ _)); exact BK136.out)) : gb136 ≠ gb137)); have n6_ := Aside0.mk ((by rw [hg]; exact Nat.ne_of_gt (blk_lt (g := gb136) (o := .cells #[.int .i64 a0_0, .int .i64 a0_1, .string a0_2, .string a0_3, .slice A0_4 l0_4.length c0_4, .int .i64 a0_5, .slice A0_6 l0_6.length c0_6, .int .i64 a0_7, .int .i64 a0_8, .int .i64 a0_9] 61 (0, 0)) (by (with_reducible repeat (first | refine blk_drewN ?_ _ | refine blk_drew ?_ | refine blk_alloc ?_ _)); exact BK136.out)) : gb137 ≠ gb136)); clear BK136; clear HB; have BK136 := n0_; have HB := n1_; have BK137 := n2_; have GW137 := n3_; have GE137 := n4_; have NB136_137 := n5_; have NB137_136 := n6_; clear n0_ n1_ n2_ n3_ n4_ n5_ n6_; clear hb hbox hg; have hnb31 := NB136_137.out; have hnc31 := NB137_136.out; have hcz32_0 : w30.cell? ⟨gb136, 0, none⟩ = some (.int .i64 a0_0) := (blk_cell BK136.out 0).trans rfl; have hcz32_1 : w30.cell? ⟨gb136, 1, none⟩ = some (.int .i64 a0_1) := (blk_cell BK136.out 1).trans rfl; have hcz32_2 : w30.cell? ⟨gb136, 2, none⟩ = some (.string a0_2) := (blk_cell BK136.out 2).trans rfl; have hcz32_3 : w30.cell? ⟨gb136, 3, none⟩ = some (.string a0_3) := (blk_cell BK136.out 3).trans rfl; have hcz32_4 : w30.cell? ⟨gb136, 4, none⟩ = some (.slice A0_4 l0_4.length c0_4) := (blk_cell BK136.out 4).trans rfl; have hcz32_5 : w30.cell? ⟨gb136, 5, none⟩ = some (.int .i64 a0_5) := (blk_cell BK136.out 5).trans rfl; have hcz32_6 : w30.cell? ⟨gb136, 6, none⟩ = some (.slice A0_6 l0_6.length c0_6) := (blk_cell BK136.out 6).trans rfl; have hcz32_7 : w30.cell? ⟨gb136, 7, none⟩ = some (.int .i64 a0_7) := (blk_cell BK136.out 7).trans rfl; have hcz32_8 : w30.cell? ⟨gb136, 8, none⟩ = some (.int .i64 a0_8) := (blk_cell BK136.out 8).trans rfl; have hcz32_9 : w30.cell? ⟨gb136, 9, none⟩ = some (.int .i64 a0_9) := (blk_cell BK136.out 9).trans rfl; have hfz32_0 := blk_frozen BK136.out 0; have hfz32_1 := blk_frozen BK136.out 1; have hfz32_2 := blk_frozen BK136.out 2; have hfz32_3 := blk_frozen BK136.out 3; have hfz32_4 := blk_frozen BK136.out 4; have hfz32_5 := blk_frozen BK136.out 5; have hfz32_6 := blk_frozen BK136.out 6; have hfz32_7 := blk_frozen BK136.out 7; have hfz32_8 := blk_frozen BK136.out 8; have hfz32_9 := blk_frozen BK136.out 9; have hcz33_0 : w30.cell? ⟨gb137, 0, none⟩ = some (.int .i64 a1_0) := (blk_cell BK137.out 0).trans rfl; have hcz33_1 : w30.cell? ⟨gb137, 1, none⟩ = some (.int .i64 a1_1) := (blk_cell BK137.out 1).trans rfl; have hcz33_2 : w30.cell? ⟨gb137, 2, none⟩ = some (.string a1_2) := (blk_cell BK137.out 2).trans rfl; have hcz33_3 : w30.cell? ⟨gb137, 3, none⟩ = some (.string a1_3) := (blk_cell BK137.out 3).trans rfl; have hcz33_4 : w30.cell? ⟨gb137, 4, none⟩ = some (.slice A1_4 l1_4.length c1_4) := (blk_cell BK137.out 4).trans rfl; have hcz33_5 : w30.cell? ⟨gb137, 5, none⟩ = some (.int .i64 a1_5) := (blk_cell BK137.out 5).trans rfl; have hcz33_6 : w30.cell? ⟨gb137, 6, none⟩ = some (.slice A1_6 l1_6.length c1_6) := (blk_cell BK137.out 6).trans rfl; have hcz33_7 : w30.cell? ⟨gb137, 7, none⟩ = some (.int .i64 a1_7) := (blk_cell BK137.out 7).trans rfl; have hcz33_8 : w30.cell? ⟨gb137, 8, none⟩ = some (.int .i64 a1_8) := (blk_cell BK137.out 8).trans rfl; have hcz33_9 : w30.cell? ⟨gb137, 9, none⟩ = some (.int .i64 a1_9) := (blk_cell BK137.out 9).trans rfl; have hfz33_0 := blk_frozen BK137.out 0; have hfz33_1 := blk_frozen BK137.out 1; have hfz33_2 := blk_frozen BK137.out 2; have hfz33_3 := blk_frozen BK137.out 3; have hfz33_4 := blk_frozen BK137.out 4; have hfz33_5 := blk_frozen BK137.out 5; have hfz33_6 := blk_frozen BK137.out 6; have hfz33_7 := blk_frozen BK137.out 7; have hfz33_8 := blk_frozen BK137.out 8; have hfz33_9 := blk_frozen BK137.out 9))
                go_ret
                exact ⟨by first | rfl | (simp [errW_none, errW_some] <;> rfl) | (simp [*, errW_none, errW_some] <;> rfl), by repeat (first | (with_reducible first | exact HB.out | apply below_alloc | apply pw_below_drewN | apply below_drew1 | refine below_set ?_ GE136.out | refine below_set ?_ GE137.out) | exact HB.out)⟩
            · rw [if_neg c8] at H
              have c8b0 : (a0_7 == a1_7) = false := beq_eq_false_iff_ne.mpr c8
              have c8b1 : (a0_7 != a1_7) = true := bne_iff_ne.mpr c8
              obtain rfl := Option.some.inj H
              go_enter Tryd.func45, Tryd.ntmps45
              go_wp2_with (first | ((with_reducible refine gate_dst (N := 2) rfl ?_); refine box_event ?hg (N := 2) ?hd (cs := #[.int .i64 a0_0, .int .i64 a0_1, .string a0_2, .string a0_3, .slice A0_4 l0_4.length c0_4, .int .i64 a0_5, .slice A0_6 l0_6.length c0_6, .int .i64 a0_7, .int .i64 a0_8, .int .i64 a0_9]) (t := 61) ?hr ?_; (case hd => rfl); (case hg => rfl); (case hr => first | (go_simp; done) | (go_simp; rfl)); intro gb136 hg w34 hbox hb; have n0_ := Aside0.mk (below_step (by repeat (first | (with_reducible first | exact HB.out | apply below_alloc | apply pw_below_drewN | apply below_drew1) | exact HB.out)) hb); have n1_ := Aside0.mk (hbox); have n2_ := Aside0.mk ((by rw [hg]; exact (below_size (by repeat (first | (with_reducible first | exact HB.out | apply below_alloc | apply pw_below_drewN | apply below_drew1) | exact HB.out))) : w.heap.size ≤ gb136)); have n3_ := Aside0.mk ((by rw [hg]; exact (below_size (by repeat (first | (with_reducible first | exact HB.out | apply below_alloc | apply pw_below_drewN | apply below_drew1) | exact HB.out))) : w.heap.size ≤ gb136)); clear HB; have HB := n0_; have BK136 := n1_; have GW136 := n2_; have GE136 := n3_; clear n0_ n1_ n2_ n3_; clear hb hbox hg) | ((with_reducible refine gate_dst (N := 3) rfl ?_); refine box_event ?hg (N := 3) ?hd (cs := #[.int .i64 a1_0, .int .i64 a1_1, .string a1_2, .string a1_3, .slice A1_4 l1_4.length c1_4, .int .i64 a1_5, .slice A1_6 l1_6.length c1_6, .int .i64 a1_7, .int .i64 a1_8, .int .i64 a1_9]) (t := 61) ?hr ?_; (case hd => rfl); (case hg => rfl); (case hr => first | (go_simp; done) | (go_simp; rfl)); intro gb137 hg w35 hbox hb; have n0_ := Aside0.mk (blk_below (g := gb136) (o := .cells #[.int .i64 a0_0, .int .i64 a0_1, .string a0_2, .string a0_3, .slice A0_4 l0_4.length c0_4, .int .i64 a0_5, .slice A0_6 l0_6.length c0_6, .int .i64 a0_7, .int .i64 a0_8, .int .i64 a0_9] 61 (0, 0)) (by (with_reducible repeat (first | refine blk_drewN ?_ _ | refine blk_drew ?_ | refine blk_alloc ?_ _)); exact BK136.out) hb); have n1_ := Aside0.mk (below_step (by repeat (first | (with_reducible first | exact HB.out | apply below_alloc | apply pw_below_drewN | apply below_drew1 | refine below_set ?_ GE136.out) | exact HB.out)) hb); have n2_ := Aside0.mk (hbox); have n3_ := Aside0.mk ((by rw [hg]; exact (below_size (by repeat (first | (with_reducible first | exact HB.out | apply below_alloc | apply pw_below_drewN | apply below_drew1 | refine below_set ?_ GE136.out) | exact HB.out))) : w.heap.size ≤ gb137)); have n4_ := Aside0.mk ((by rw [hg]; exact (below_size (by repeat (first | (with_reducible first | exact HB.out | apply below_alloc | apply pw_below_drewN | apply below_drew1 | refine below_set ?_ GE136.out) | exact HB.out))) : w.heap.size ≤ gb137)); have n5_ := Aside0.mk ((by rw [hg]; exact Nat.ne_of_lt (blk_lt (g := gb136) (o := .cells #[.int .i64 a0_0, .int .i64 a0_1, .string a0_2, .string a0_3, .slice A0_4 l0_4.length c0_4, .int .i64 a0_5, .slice A0_6 l0_6.length c0_6, .int .i64 a0_7, .int .i64 a0_8, .int .i64 a0_9] 61 (0, 0)) (by (with_reducible repeat (first | refine blk_drewN ?_ _ | refine blk_drew ?_ | refine blk_alloc ?_ _)); exact BK136.out)) : gb136 ≠ gb137)); have n6_ := Aside0.mk ((by rw [hg]; exact Nat.ne_of_gt (blk_lt (g := gb136) (o := .cells #[.int .i64 a0_0, .int .i64 a0_1, .string a0_2, .string a0_3, .slice A0_4 l0_4.length c0_4, .int .i64 a0_5, .slice A0_6 l0_6.length c0_6, .int .i64 a0_7, .int .i64 a0_8, .int .i64 a0_9] 61 (0, 0)) (by (with_reducible repeat (first | refine blk_drewN ?_ _ | refine blk_drew ?_ | refine blk_alloc ?_ _)); exact BK136.out)) : gb137 ≠ gb136)); clear BK136; clear HB; have BK136 := n0_; have HB := n1_; have BK137 := n2_; have GW137 := n3_; have GE137 := n4_; have NB136_137 := n5_; have NB137_136 := n6_; clear n0_ n1_ n2_ n3_ n4_ n5_ n6_; clear hb hbox hg; have hnb36 := NB136_137.out; have hnc36 := NB137_136.out; have hcz37_0 : w35.cell? ⟨gb136, 0, none⟩ = some (.int .i64 a0_0) := (blk_cell BK136.out 0).trans rfl; have hcz37_1 : w35.cell? ⟨gb136, 1, none⟩ = some (.int .i64 a0_1) := (blk_cell BK136.out 1).trans rfl; have hcz37_2 : w35.cell? ⟨gb136, 2, none⟩ = some (.string a0_2) := (blk_cell BK136.out 2).trans rfl; have hcz37_3 : w35.cell? ⟨gb136, 3, none⟩ = some (.string a0_3) := (blk_cell BK136.out 3).trans rfl; have hcz37_4 : w35.cell? ⟨gb136, 4, none⟩ = some (.slice A0_4 l0_4.length c0_4) := (blk_cell BK136.out 4).trans rfl; have hcz37_5 : w35.cell? ⟨gb136, 5, none⟩ = some (.int .i64 a0_5) := (blk_cell BK136.out 5).trans rfl; have hcz37_6 : w35.cell? ⟨gb136, 6, none⟩ = some (.slice A0_6 l0_6.length c0_6) := (blk_cell BK136.out 6).trans rfl; have hcz37_7 : w35.cell? ⟨gb136, 7, none⟩ = some (.int .i64 a0_7) := (blk_cell BK136.out 7).trans rfl; have hcz37_8 : w35.cell? ⟨gb136, 8, none⟩ = some (.int .i64 a0_8) := (blk_cell BK136.out 8).trans rfl; have hcz37_9 : w35.cell? ⟨gb136, 9, none⟩ = some (.int .i64 a0_9) := (blk_cell BK136.out 9).trans rfl; have hfz37_0 := blk_frozen BK136.out 0; have hfz37_1 := blk_frozen BK136.out 1; have hfz37_2 := blk_frozen BK136.out 2; have hfz37_3 := blk_frozen BK136.out 3; have hfz37_4 := blk_frozen BK136.out 4; have hfz37_5 := blk_frozen BK136.out 5; have hfz37_6 := blk_frozen BK136.out 6; have hfz37_7 := blk_frozen BK136.out 7; have hfz37_8 := blk_frozen BK136.out 8; have hfz37_9 := blk_frozen BK136.out 9; have hcz38_0 : w35.cell? ⟨gb137, 0, none⟩ = some (.int .i64 a1_0) := (blk_cell BK137.out 0).trans rfl; have hcz38_1 : w35.cell? ⟨gb137, 1, none⟩ = some (.int .i64 a1_1) := (blk_cell BK137.out 1).trans rfl; have hcz38_2 : w35.cell? ⟨gb137, 2, none⟩ = some (.string a1_2) := (blk_cell BK137.out 2).trans rfl; have hcz38_3 : w35.cell? ⟨gb137, 3, none⟩ = some (.string a1_3) := (blk_cell BK137.out 3).trans rfl; have hcz38_4 : w35.cell? ⟨gb137, 4, none⟩ = some (.slice A1_4 l1_4.length c1_4) := (blk_cell BK137.out 4).trans rfl; have hcz38_5 : w35.cell? ⟨gb137, 5, none⟩ = some (.int .i64 a1_5) := (blk_cell BK137.out 5).trans rfl; have hcz38_6 : w35.cell? ⟨gb137, 6, none⟩ = some (.slice A1_6 l1_6.length c1_6) := (blk_cell BK137.out 6).trans rfl; have hcz38_7 : w35.cell? ⟨gb137, 7, none⟩ = some (.int .i64 a1_7) := (blk_cell BK137.out 7).trans rfl; have hcz38_8 : w35.cell? ⟨gb137, 8, none⟩ = some (.int .i64 a1_8) := (blk_cell BK137.out 8).trans rfl; have hcz38_9 : w35.cell? ⟨gb137, 9, none⟩ = some (.int .i64 a1_9) := (blk_cell BK137.out 9).trans rfl; have hfz38_0 := blk_frozen BK137.out 0; have hfz38_1 := blk_frozen BK137.out 1; have hfz38_2 := blk_frozen BK137.out 2; have hfz38_3 := blk_frozen BK137.out 3; have hfz38_4 := blk_frozen BK137.out 4; have hfz38_5 := blk_frozen BK137.out 5; have hfz38_6 := blk_frozen BK137.out 6; have hfz38_7 := blk_frozen BK137.out 7; have hfz38_8 := blk_frozen BK137.out 8; have hfz38_9 := blk_frozen BK137.out 9))
              go_ret
              exact ⟨by first | rfl | (simp [errW_none, errW_some] <;> rfl) | (simp [*, errW_none, errW_some] <;> rfl), by repeat (first | (with_reducible first | exact HB.out | apply below_alloc | apply pw_below_drewN | apply below_drew1 | refine below_set ?_ GE136.out | refine below_set ?_ GE137.out) | exact HB.out)⟩
          · rw [if_neg c7] at H
            have c7b0 : (a0_5 == a1_5) = false := beq_eq_false_iff_ne.mpr c7
            have c7b1 : (a0_5 != a1_5) = true := bne_iff_ne.mpr c7
            obtain rfl := Option.some.inj H
            go_enter Tryd.func45, Tryd.ntmps45
            go_wp2_with (first | ((with_reducible refine gate_dst (N := 2) rfl ?_); refine box_event ?hg (N := 2) ?hd (cs := #[.int .i64 a0_0, .int .i64 a0_1, .string a0_2, .string a0_3, .slice A0_4 l0_4.length c0_4, .int .i64 a0_5, .slice A0_6 l0_6.length c0_6, .int .i64 a0_7, .int .i64 a0_8, .int .i64 a0_9]) (t := 61) ?hr ?_; (case hd => rfl); (case hg => rfl); (case hr => first | (go_simp; done) | (go_simp; rfl)); intro gb136 hg w39 hbox hb; have n0_ := Aside0.mk (below_step (by repeat (first | (with_reducible first | exact HB.out | apply below_alloc | apply pw_below_drewN | apply below_drew1) | exact HB.out)) hb); have n1_ := Aside0.mk (hbox); have n2_ := Aside0.mk ((by rw [hg]; exact (below_size (by repeat (first | (with_reducible first | exact HB.out | apply below_alloc | apply pw_below_drewN | apply below_drew1) | exact HB.out))) : w.heap.size ≤ gb136)); have n3_ := Aside0.mk ((by rw [hg]; exact (below_size (by repeat (first | (with_reducible first | exact HB.out | apply below_alloc | apply pw_below_drewN | apply below_drew1) | exact HB.out))) : w.heap.size ≤ gb136)); clear HB; have HB := n0_; have BK136 := n1_; have GW136 := n2_; have GE136 := n3_; clear n0_ n1_ n2_ n3_; clear hb hbox hg) | ((with_reducible refine gate_dst (N := 3) rfl ?_); refine box_event ?hg (N := 3) ?hd (cs := #[.int .i64 a1_0, .int .i64 a1_1, .string a1_2, .string a1_3, .slice A1_4 l1_4.length c1_4, .int .i64 a1_5, .slice A1_6 l1_6.length c1_6, .int .i64 a1_7, .int .i64 a1_8, .int .i64 a1_9]) (t := 61) ?hr ?_; (case hd => rfl); (case hg => rfl); (case hr => first | (go_simp; done) | (go_simp; rfl)); intro gb137 hg w40 hbox hb; have n0_ := Aside0.mk (blk_below (g := gb136) (o := .cells #[.int .i64 a0_0, .int .i64 a0_1, .string a0_2, .string a0_3, .slice A0_4 l0_4.length c0_4, .int .i64 a0_5, .slice A0_6 l0_6.length c0_6, .int .i64 a0_7, .int .i64 a0_8, .int .i64 a0_9] 61 (0, 0)) (by (with_reducible repeat (first | refine blk_drewN ?_ _ | refine blk_drew ?_ | refine blk_alloc ?_ _)); exact BK136.out) hb); have n1_ := Aside0.mk (below_step (by repeat (first | (with_reducible first | exact HB.out | apply below_alloc | apply pw_below_drewN | apply below_drew1 | refine below_set ?_ GE136.out) | exact HB.out)) hb); have n2_ := Aside0.mk (hbox); have n3_ := Aside0.mk ((by rw [hg]; exact (below_size (by repeat (first | (with_reducible first | exact HB.out | apply below_alloc | apply pw_below_drewN | apply below_drew1 | refine below_set ?_ GE136.out) | exact HB.out))) : w.heap.size ≤ gb137)); have n4_ := Aside0.mk ((by rw [hg]; exact (below_size (by repeat (first | (with_reducible first | exact HB.out | apply below_alloc | apply pw_below_drewN | apply below_drew1 | refine below_set ?_ GE136.out) | exact HB.out))) : w.heap.size ≤ gb137)); have n5_ := Aside0.mk ((by rw [hg]; exact Nat.ne_of_lt (blk_lt (g := gb136) (o := .cells #[.int .i64 a0_0, .int .i64 a0_1, .string a0_2, .string a0_3, .slice A0_4 l0_4.length c0_4, .int .i64 a0_5, .slice A0_6 l0_6.length c0_6, .int .i64 a0_7, .int .i64 a0_8, .int .i64 a0_9] 61 (0, 0)) (by (with_reducible repeat (first | refine blk_drewN ?_ _ | refine blk_drew ?_ | refine blk_alloc ?_ _)); exact BK136.out)) : gb136 ≠ gb137)); have n6_ := Aside0.mk ((by rw [hg]; exact Nat.ne_of_gt (blk_lt (g := gb136) (o := .cells #[.int .i64 a0_0, .int .i64 a0_1, .string a0_2, .string a0_3, .slice A0_4 l0_4.length c0_4, .int .i64 a0_5, .slice A0_6 l0_6.length c0_6, .int .i64 a0_7, .int .i64 a0_8, .int .i64 a0_9] 61 (0, 0)) (by (with_reducible repeat (first | refine blk_drewN ?_ _ | refine blk_drew ?_ | refine blk_alloc ?_ _)); exact BK136.out)) : gb137 ≠ gb136)); clear BK136; clear HB; have BK136 := n0_; have HB := n1_; have BK137 := n2_; have GW137 := n3_; have GE137 := n4_; have NB136_137 := n5_; have NB137_136 := n6_; clear n0_ n1_ n2_ n3_ n4_ n5_ n6_; clear hb hbox hg; have hnb41 := NB136_137.out; have hnc41 := NB137_136.out; have hcz42_0 : w40.cell? ⟨gb136, 0, none⟩ = some (.int .i64 a0_0) := (blk_cell BK136.out 0).trans rfl; have hcz42_1 : w40.cell? ⟨gb136, 1, none⟩ = some (.int .i64 a0_1) := (blk_cell BK136.out 1).trans rfl; have hcz42_2 : w40.cell? ⟨gb136, 2, none⟩ = some (.string a0_2) := (blk_cell BK136.out 2).trans rfl; have hcz42_3 : w40.cell? ⟨gb136, 3, none⟩ = some (.string a0_3) := (blk_cell BK136.out 3).trans rfl; have hcz42_4 : w40.cell? ⟨gb136, 4, none⟩ = some (.slice A0_4 l0_4.length c0_4) := (blk_cell BK136.out 4).trans rfl; have hcz42_5 : w40.cell? ⟨gb136, 5, none⟩ = some (.int .i64 a0_5) := (blk_cell BK136.out 5).trans rfl; have hcz42_6 : w40.cell? ⟨gb136, 6, none⟩ = some (.slice A0_6 l0_6.length c0_6) := (blk_cell BK136.out 6).trans rfl; have hcz42_7 : w40.cell? ⟨gb136, 7, none⟩ = some (.int .i64 a0_7) := (blk_cell BK136.out 7).trans rfl; have hcz42_8 : w40.cell? ⟨gb136, 8, none⟩ = some (.int .i64 a0_8) := (blk_cell BK136.out 8).trans rfl; have hcz42_9 : w40.cell? ⟨gb136, 9, none⟩ = some (.int .i64 a0_9) := (blk_cell BK136.out 9).trans rfl; have hfz42_0 := blk_frozen BK136.out 0; have hfz42_1 := blk_frozen BK136.out 1; have hfz42_2 := blk_frozen BK136.out 2; have hfz42_3 := blk_frozen BK136.out 3; have hfz42_4 := blk_frozen BK136.out 4; have hfz42_5 := blk_frozen BK136.out 5; have hfz42_6 := blk_frozen BK136.out 6; have hfz42_7 := blk_frozen BK136.out 7; have hfz42_8 := blk_frozen BK136.out 8; have hfz42_9 := blk_frozen BK136.out 9; have hcz43_0 : w40.cell? ⟨gb137, 0, none⟩ = some (.int .i64 a1_0) := (blk_cell BK137.out 0).trans rfl; have hcz43_1 : w40.cell? ⟨gb137, 1, none⟩ = some (.int .i64 a1_1) := (blk_cell BK137.out 1).trans rfl; have hcz43_2 : w40.cell? ⟨gb137, 2, none⟩ = some (.string a1_2) := (blk_cell BK137.out 2).trans rfl; have hcz43_3 : w40.cell? ⟨gb137, 3, none⟩ = some (.string a1_3) := (blk_cell BK137.out 3).trans rfl; have hcz43_4 : w40.cell? ⟨gb137, 4, none⟩ = some (.slice A1_4 l1_4.length c1_4) := (blk_cell BK137.out 4).trans rfl; have hcz43_5 : w40.cell? ⟨gb137, 5, none⟩ = some (.int .i64 a1_5) := (blk_cell BK137.out 5).trans rfl; have hcz43_6 : w40.cell? ⟨gb137, 6, none⟩ = some (.slice A1_6 l1_6.length c1_6) := (blk_cell BK137.out 6).trans rfl; have hcz43_7 : w40.cell? ⟨gb137, 7, none⟩ = some (.int .i64 a1_7) := (blk_cell BK137.out 7).trans rfl; have hcz43_8 : w40.cell? ⟨gb137, 8, none⟩ = some (.int .i64 a1_8) := (blk_cell BK137.out 8).trans rfl; have hcz43_9 : w40.cell? ⟨gb137, 9, none⟩ = some (.int .i64 a1_9) := (blk_cell BK137.out 9).trans rfl; have hfz43_0 := blk_frozen BK137.out 0; have hfz43_1 := blk_frozen BK137.out 1; have hfz43_2 := blk_frozen BK137.out 2; have hfz43_3 := blk_frozen BK137.out 3; have hfz43_4 := blk_frozen BK137.out 4; have hfz43_5 := blk_frozen BK137.out 5; have hfz43_6 := blk_frozen BK137.out 6; have hfz43_7 := blk_frozen BK137.out 7; have hfz43_8 := blk_frozen BK137.out 8; have hfz43_9 := blk_frozen BK137.out 9))
            go_ret
            exact ⟨by first | rfl | (simp [errW_none, errW_some] <;> rfl) | (simp [*, errW_none, errW_some] <;> rfl), by repeat (first | (with_reducible first | exact HB.out | apply below_alloc | apply pw_below_drewN | apply below_drew1 | refine below_set ?_ GE136.out | refine below_set ?_ GE137.out) | exact HB.out)⟩
        · rw [if_neg c6] at H
          have c6b0 : (a0_3.toList == a1_3.toList) = false := beq_eq_false_iff_ne.mpr c6
          have c6b1 : (a0_3.toList != a1_3.toList) = true := bne_iff_ne.mpr c6
          obtain rfl := Option.some.inj H
          go_enter Tryd.func45, Tryd.ntmps45
          go_wp2_with (first | ((with_reducible refine gate_dst (N := 2) rfl ?_); refine box_event ?hg (N := 2) ?hd (cs := #[.int .i64 a0_0, .int .i64 a0_1, .string a0_2, .string a0_3, .slice A0_4 l0_4.length c0_4, .int .i64 a0_5, .slice A0_6 l0_6.length c0_6, .int .i64 a0_7, .int .i64 a0_8, .int .i64 a0_9]) (t := 61) ?hr ?_; (case hd => rfl); (case hg => rfl); (case hr => first | (go_simp; done) | (go_simp; rfl)); intro gb136 hg w44 hbox hb; have n0_ := Aside0.mk (below_step (by repeat (first | (with_reducible first | exact HB.out | apply below_alloc | apply pw_below_drewN | apply below_drew1) | exact HB.out)) hb); have n1_ := Aside0.mk (hbox); have n2_ := Aside0.mk ((by rw [hg]; exact (below_size (by repeat (first | (with_reducible first | exact HB.out | apply below_alloc | apply pw_below_drewN | apply below_drew1) | exact HB.out))) : w.heap.size ≤ gb136)); have n3_ := Aside0.mk ((by rw [hg]; exact (below_size (by repeat (first | (with_reducible first | exact HB.out | apply below_alloc | apply pw_below_drewN | apply below_drew1) | exact HB.out))) : w.heap.size ≤ gb136)); clear HB; have HB := n0_; have BK136 := n1_; have GW136 := n2_; have GE136 := n3_; clear n0_ n1_ n2_ n3_; clear hb hbox hg) | ((with_reducible refine gate_dst (N := 3) rfl ?_); refine box_event ?hg (N := 3) ?hd (cs := #[.int .i64 a1_0, .int .i64 a1_1, .string a1_2, .string a1_3, .slice A1_4 l1_4.length c1_4, .int .i64 a1_5, .slice A1_6 l1_6.length c1_6, .int .i64 a1_7, .int .i64 a1_8, .int .i64 a1_9]) (t := 61) ?hr ?_; (case hd => rfl); (case hg => rfl); (case hr => first | (go_simp; done) | (go_simp; rfl)); intro gb137 hg w45 hbox hb; have n0_ := Aside0.mk (blk_below (g := gb136) (o := .cells #[.int .i64 a0_0, .int .i64 a0_1, .string a0_2, .string a0_3, .slice A0_4 l0_4.length c0_4, .int .i64 a0_5, .slice A0_6 l0_6.length c0_6, .int .i64 a0_7, .int .i64 a0_8, .int .i64 a0_9] 61 (0, 0)) (by (with_reducible repeat (first | refine blk_drewN ?_ _ | refine blk_drew ?_ | refine blk_alloc ?_ _)); exact BK136.out) hb); have n1_ := Aside0.mk (below_step (by repeat (first | (with_reducible first | exact HB.out | apply below_alloc | apply pw_below_drewN | apply below_drew1 | refine below_set ?_ GE136.out) | exact HB.out)) hb); have n2_ := Aside0.mk (hbox); have n3_ := Aside0.mk ((by rw [hg]; exact (below_size (by repeat (first | (with_reducible first | exact HB.out | apply below_alloc | apply pw_below_drewN | apply below_drew1 | refine below_set ?_ GE136.out) | exact HB.out))) : w.heap.size ≤ gb137)); have n4_ := Aside0.mk ((by rw [hg]; exact (below_size (by repeat (first | (with_reducible first | exact HB.out | apply below_alloc | apply pw_below_drewN | apply below_drew1 | refine below_set ?_ GE136.out) | exact HB.out))) : w.heap.size ≤ gb137)); have n5_ := Aside0.mk ((by rw [hg]; exact Nat.ne_of_lt (blk_lt (g := gb136) (o := .cells #[.int .i64 a0_0, .int .i64 a0_1, .string a0_2, .string a0_3, .slice A0_4 l0_4.length c0_4, .int .i64 a0_5, .slice A0_6 l0_6.length c0_6, .int .i64 a0_7, .int .i64 a0_8, .int .i64 a0_9] 61 (0, 0)) (by (with_reducible repeat (first | refine blk_drewN ?_ _ | refine blk_drew ?_ | refine blk_alloc ?_ _)); exact BK136.out)) : gb136 ≠ gb137)); have n6_ := Aside0.mk ((by rw [hg]; exact Nat.ne_of_gt (blk_lt (g := gb136) (o := .cells #[.int .i64 a0_0, .int .i64 a0_1, .string a0_2, .string a0_3, .slice A0_4 l0_4.length c0_4, .int .i64 a0_5, .slice A0_6 l0_6.length c0_6, .int .i64 a0_7, .int .i64 a0_8, .int .i64 a0_9] 61 (0, 0)) (by (with_reducible repeat (first | refine blk_drewN ?_ _ | refine blk_drew ?_ | refine blk_alloc ?_ _)); exact BK136.out)) : gb137 ≠ gb136)); clear BK136; clear HB; have BK136 := n0_; have HB := n1_; have BK137 := n2_; have GW137 := n3_; have GE137 := n4_; have NB136_137 := n5_; have NB137_136 := n6_; clear n0_ n1_ n2_ n3_ n4_ n5_ n6_; clear hb hbox hg; have hnb46 := NB136_137.out; have hnc46 := NB137_136.out; have hcz47_0 : w45.cell? ⟨gb136, 0, none⟩ = some (.int .i64 a0_0) := (blk_cell BK136.out 0).trans rfl; have hcz47_1 : w45.cell? ⟨gb136, 1, none⟩ = some (.int .i64 a0_1) := (blk_cell BK136.out 1).trans rfl; have hcz47_2 : w45.cell? ⟨gb136, 2, none⟩ = some (.string a0_2) := (blk_cell BK136.out 2).trans rfl; have hcz47_3 : w45.cell? ⟨gb136, 3, none⟩ = some (.string a0_3) := (blk_cell BK136.out 3).trans rfl; have hcz47_4 : w45.cell? ⟨gb136, 4, none⟩ = some (.slice A0_4 l0_4.length c0_4) := (blk_cell BK136.out 4).trans rfl; have hcz47_5 : w45.cell? ⟨gb136, 5, none⟩ = some (.int .i64 a0_5) := (blk_cell BK136.out 5).trans rfl; have hcz47_6 : w45.cell? ⟨gb136, 6, none⟩ = some (.slice A0_6 l0_6.length c0_6) := (blk_cell BK136.out 6).trans rfl; have hcz47_7 : w45.cell? ⟨gb136, 7, none⟩ = some (.int .i64 a0_7) := (blk_cell BK136.out 7).trans rfl; have hcz47_8 : w45.cell? ⟨gb136, 8, none⟩ = some (.int .i64 a0_8) := (blk_cell BK136.out 8).trans rfl; have hcz47_9 : w45.cell? ⟨gb136, 9, none⟩ = some (.int .i64 a0_9) := (blk_cell BK136.out 9).trans rfl; have hfz47_0 := blk_frozen BK136.out 0; have hfz47_1 := blk_frozen BK136.out 1; have hfz47_2 := blk_frozen BK136.out 2; have hfz47_3 := blk_frozen BK136.out 3; have hfz47_4 := blk_frozen BK136.out 4; have hfz47_5 := blk_frozen BK136.out 5; have hfz47_6 := blk_frozen BK136.out 6; have hfz47_7 := blk_frozen BK136.out 7; have hfz47_8 := blk_frozen BK136.out 8; have hfz47_9 := blk_frozen BK136.out 9; have hcz48_0 : w45.cell? ⟨gb137, 0, none⟩ = some (.int .i64 a1_0) := (blk_cell BK137.out 0).trans rfl; have hcz48_1 : w45.cell? ⟨gb137, 1, none⟩ = some (.int .i64 a1_1) := (blk_cell BK137.out 1).trans rfl; have hcz48_2 : w45.cell? ⟨gb137, 2, none⟩ = some (.string a1_2) := (blk_cell BK137.out 2).trans rfl; have hcz48_3 : w45.cell? ⟨gb137, 3, none⟩ = some (.string a1_3) := (blk_cell BK137.out 3).trans rfl; have hcz48_4 : w45.cell? ⟨gb137, 4, none⟩ = some (.slice A1_4 l1_4.length c1_4) := (blk_cell BK137.out 4).trans rfl; have hcz48_5 : w45.cell? ⟨gb137, 5, none⟩ = some (.int .i64 a1_5) := (blk_cell BK137.out 5).trans rfl; have hcz48_6 : w45.cell? ⟨gb137, 6, none⟩ = some (.slice A1_6 l1_6.length c1_6) := (blk_cell BK137.out 6).trans rfl; have hcz48_7 : w45.cell? ⟨gb137, 7, none⟩ = some (.int .i64 a1_7) := (blk_cell BK137.out 7).trans rfl; have hcz48_8 : w45.cell? ⟨gb137, 8, none⟩ = some (.int .i64 a1_8) := (blk_cell BK137.out 8).trans rfl; have hcz48_9 : w45.cell? ⟨gb137, 9, none⟩ = some (.int .i64 a1_9) := (blk_cell BK137.out 9).trans rfl; have hfz48_0 := blk_frozen BK137.out 0; have hfz48_1 := blk_frozen BK137.out 1; have hfz48_2 := blk_frozen BK137.out 2; have hfz48_3 := blk_frozen BK137.out 3; have hfz48_4 := blk_frozen BK137.out 4; have hfz48_5 := blk_frozen BK137.out 5; have hfz48_6 := blk_frozen BK137.out 6; have hfz48_7 := blk_frozen BK137.out 7; have hfz48_8 := blk_frozen BK137.out 8; have hfz48_9 := blk_frozen BK137.out 9))
          go_ret
          exact ⟨by first | rfl | (simp [errW_none, errW_some] <;> rfl) | (simp [*, errW_none, errW_some] <;> rfl), by repeat (first | (with_reducible first | exact HB.out | apply below_alloc | apply pw_below_drewN | apply below_drew1 | refine below_set ?_ GE136.out | refine below_set ?_ GE137.out) | exact HB.out)⟩
      · rw [if_neg c5] at H
        have c5b0 : (a0_2.toList == a1_2.toList) = false := beq_eq_false_iff_ne.mpr c5
        have c5b1 : (a0_2.toList != a1_2.toList) = true := bne_iff_ne.mpr c5
        obtain rfl := Option.some.inj H
        go_enter Tryd.func45, Tryd.ntmps45
        go_wp2_with (first | ((with_reducible refine gate_dst (N := 2) rfl ?_); refine box_event ?hg (N := 2) ?hd (cs := #[.int .i64 a0_0, .int .i64 a0_1, .string a0_2, .string a0_3, .slice A0_4 l0_4.length c0_4, .int .i64 a0_5, .slice A0_6 l0_6.length c0_6, .int .i64 a0_7, .int .i64 a0_8, .int .i64 a0_9]) (t := 61) ?hr ?_; (case hd => rfl); (case hg => rfl); (case hr => first | (go_simp; done) | (go_simp; rfl)); intro gb136 hg w49 hbox hb; have n0_ := Aside0.mk (below_step (by repeat (first | (with_reducible first | exact HB.out | apply below_alloc | apply pw_below_drewN | apply below_drew1) | exact HB.out)) hb); have n1_ := Aside0.mk (hbox); have n2_ := Aside0.mk ((by rw [hg]; exact (below_size (by repeat (first | (with_reducible first | exact HB.out | apply below_alloc | apply pw_below_drewN | apply below_drew1) | exact HB.out))) : w.heap.size ≤ gb136)); have n3_ := Aside0.mk ((by rw [hg]; exact (below_size (by repeat (first | (with_reducible first | exact HB.out | apply below_alloc | apply pw_below_drewN | apply below_drew1) | exact HB.out))) : w.heap.size ≤ gb136)); clear HB; have HB := n0_; have BK136 := n1_; have GW136 := n2_; have GE136 := n3_; clear n0_ n1_ n2_ n3_; clear hb hbox hg) | ((with_reducible refine gate_dst (N := 3) rfl ?_); refine box_event ?hg (N := 3) ?hd (cs := #[.int .i64 a1_0, .int .i64 a1_1, .string a1_2, .string a1_3, .slice A1_4 l1_4.length c1_4, .int .i64 a1_5, .slice A1_6 l1_6.length c1_6, .int .i64 a1_7, .int .i64 a1_8, .int .i64 a1_9]) (t := 61) ?hr ?_; (case hd => rfl); (case hg => rfl); (case hr => first | (go_simp; done) | (go_simp; rfl)); intro gb137 hg w50 hbox hb; have n0_ := Aside0.mk (blk_below (g := gb136) (o := .cells #[.int .i64 a0_0, .int .i64 a0_1, .string a0_2, .string a0_3, .slice A0_4 l0_4.length c0_4, .int .i64 a0_5, .slice A0_6 l0_6.length c0_6, .int .i64 a0_7, .int .i64 a0_8, .int .i64 a0_9] 61 (0, 0)) (by (with_reducible repeat (first | refine blk_drewN ?_ _ | refine blk_drew ?_ | refine blk_alloc ?_ _)); exact BK136.out) hb); have n1_ := Aside0.mk (below_step (by repeat (first | (with_reducible first | exact HB.out | apply below_alloc | apply pw_below_drewN | apply below_drew1 | refine below_set ?_ GE136.out) | exact HB.out)) hb); have n2_ := Aside0.mk (hbox); have n3_ := Aside0.mk ((by rw [hg]; exact (below_size (by repeat (first | (with_reducible first | exact HB.out | apply below_alloc | apply pw_below_drewN | apply below_drew1 | refine below_set ?_ GE136.out) | exact HB.out))) : w.heap.size ≤ gb137)); have n4_ := Aside0.mk ((by rw [hg]; exact (below_size (by repeat (first | (with_reducible first | exact HB.out | apply below_alloc | apply pw_below_drewN | apply below_drew1 | refine below_set ?_ GE136.out) | exact HB.out))) : w.heap.size ≤ gb137)); have n5_ := Aside0.mk ((by rw [hg]; exact Nat.ne_of_lt (blk_lt (g := gb136) (o := .cells #[.int .i64 a0_0, .int .i64 a0_1, .string a0_2, .string a0_3, .slice A0_4 l0_4.length c0_4, .int .i64 a0_5, .slice A0_6 l0_6.length c0_6, .int .i64 a0_7, .int .i64 a0_8, .int .i64 a0_9] 61 (0, 0)) (by (with_reducible repeat (first | refine blk_drewN ?_ _ | refine blk_drew ?_ | refine blk_alloc ?_ _)); exact BK136.out)) : gb136 ≠ gb137)); have n6_ := Aside0.mk ((by rw [hg]; exact Nat.ne_of_gt (blk_lt (g := gb136) (o := .cells #[.int .i64 a0_0, .int .i64 a0_1, .string a0_2, .string a0_3, .slice A0_4 l0_4.length c0_4, .int .i64 a0_5, .slice A0_6 l0_6.length c0_6, .int .i64 a0_7, .int .i64 a0_8, .int .i64 a0_9] 61 (0, 0)) (by (with_reducible repeat (first | refine blk_drewN ?_ _ | refine blk_drew ?_ | refine blk_alloc ?_ _)); exact BK136.out)) : gb137 ≠ gb136)); clear BK136; clear HB; have BK136 := n0_; have HB := n1_; have BK137 := n2_; have GW137 := n3_; have GE137 := n4_; have NB136_137 := n5_; have NB137_136 := n6_; clear n0_ n1_ n2_ n3_ n4_ n5_ n6_; clear hb hbox hg; have hnb51 := NB136_137.out; have hnc51 := NB137_136.out; have hcz52_0 : w50.cell? ⟨gb136, 0, none⟩ = some (.int .i64 a0_0) := (blk_cell BK136.out 0).trans rfl; have hcz52_1 : w50.cell? ⟨gb136, 1, none⟩ = some (.int .i64 a0_1) := (blk_cell BK136.out 1).trans rfl; have hcz52_2 : w50.cell? ⟨gb136, 2, none⟩ = some (.string a0_2) := (blk_cell BK136.out 2).trans rfl; have hcz52_3 : w50.cell? ⟨gb136, 3, none⟩ = some (.string a0_3) := (blk_cell BK136.out 3).trans rfl; have hcz52_4 : w50.cell? ⟨gb136, 4, none⟩ = some (.slice A0_4 l0_4.length c0_4) := (blk_cell BK136.out 4).trans rfl; have hcz52_5 : w50.cell? ⟨gb136, 5, none⟩ = some (.int .i64 a0_5) := (blk_cell BK136.out 5).trans rfl; have hcz52_6 : w50.cell? ⟨gb136, 6, none⟩ = some (.slice A0_6 l0_6.length c0_6) := (blk_cell BK136.out 6).trans rfl; have hcz52_7 : w50.cell? ⟨gb136, 7, none⟩ = some (.int .i64 a0_7) := (blk_cell BK136.out 7).trans rfl; have hcz52_8 : w50.cell? ⟨gb136, 8, none⟩ = some (.int .i64 a0_8) := (blk_cell BK136.out 8).trans rfl; have hcz52_9 : w50.cell? ⟨gb136, 9, none⟩ = some (.int .i64 a0_9) := (blk_cell BK136.out 9).trans rfl; have hfz52_0 := blk_frozen BK136.out 0; have hfz52_1 := blk_frozen BK136.out 1; have hfz52_2 := blk_frozen BK136.out 2; have hfz52_3 := blk_frozen BK136.out 3; have hfz52_4 := blk_frozen BK136.out 4; have hfz52_5 := blk_frozen BK136.out 5; have hfz52_6 := blk_frozen BK136.out 6; have hfz52_7 := blk_frozen BK136.out 7; have hfz52_8 := blk_frozen BK136.out 8; have hfz52_9 := blk_frozen BK136.out 9; have hcz53_0 : w50.cell? ⟨gb137, 0, none⟩ = some (.int .i64 a1_0) := (blk_cell BK137.out 0).trans rfl; have hcz53_1 : w50.cell? ⟨gb137, 1, none⟩ = some (.int .i64 a1_1) := (blk_cell BK137.out 1).trans rfl; have hcz53_2 : w50.cell? ⟨gb137, 2, none⟩ = some (.string a1_2) := (blk_cell BK137.out 2).trans rfl; have hcz53_3 : w50.cell? ⟨gb137, 3, none⟩ = some (.string a1_3) := (blk_cell BK137.out 3).trans rfl; have hcz53_4 : w50.cell? ⟨gb137, 4, none⟩ = some (.slice A1_4 l1_4.length c1_4) := (blk_cell BK137.out 4).trans rfl; have hcz53_5 : w50.cell? ⟨gb137, 5, none⟩ = some (.int .i64 a1_5) := (blk_cell BK137.out 5).trans rfl; have hcz53_6 : w50.cell? ⟨gb137, 6, none⟩ = some (.slice A1_6 l1_6.length c1_6) := (blk_cell BK137.out 6).trans rfl; have hcz53_7 : w50.cell? ⟨gb137, 7, none⟩ = some (.int .i64 a1_7) := (blk_cell BK137.out 7).trans rfl; have hcz53_8 : w50.cell? ⟨gb137, 8, none⟩ = some (.int .i64 a1_8) := (blk_cell BK137.out 8).trans rfl; have hcz53_9 : w50.cell? ⟨gb137, 9, none⟩ = some (.int .i64 a1_9) := (blk_cell BK137.out 9).trans rfl; have hfz53_0 := blk_frozen BK137.out 0; have hfz53_1 := blk_frozen BK137.out 1; have hfz53_2 := blk_frozen BK137.out 2; have hfz53_3 := blk_frozen BK137.out 3; have hfz53_4 := blk_frozen BK137.out 4; have hfz53_5 := blk_frozen BK137.out 5; have hfz53_6 := blk_frozen BK137.out 6; have hfz53_7 := blk_frozen BK137.out 7; have hfz53_8 := blk_frozen BK137.out 8; have hfz53_9 := blk_frozen BK137.out 9))
        go_ret
        exact ⟨by first | rfl | (simp [errW_none, errW_some] <;> rfl) | (simp [*, errW_none, errW_some] <;> rfl), by repeat (first | (with_reducible first | exact HB.out | apply below_alloc | apply pw_below_drewN | apply below_drew1 | refine below_set ?_ GE136.out | refine below_set ?_ GE137.out) | exact HB.out)⟩
    · rw [if_neg c4] at H
      have c4b0 : (a0_1 == a1_1) = false := beq_eq_false_iff_ne.mpr c4
      have c4b1 : (a0_1 != a1_1) = true := bne_iff_ne.mpr c4
      obtain rfl := Option.some.inj H
      go_enter Tryd.func45, Tryd.ntmps45
      go_wp2_with (first | ((with_reducible refine gate_dst (N := 2) rfl ?_); refine box_event ?hg (N := 2) ?hd (cs := #[.int .i64 a0_0, .int .i64 a0_1, .string a0_2, .string a0_3, .slice A0_4 l0_4.length c0_4, .int .i64 a0_5, .slice A0_6 l0_6.length c0_6, .int .i64 a0_7, .int .i64 a0_8, .int .i64 a0_9]) (t := 61) ?hr ?_; (case hd => rfl); (case hg => rfl); (case hr => first | (go_simp; done) | (go_simp; rfl)); intro gb136 hg w54 hbox hb; have n0_ := Aside0.mk (below_step (by repeat (first | (with_reducible first | exact HB.out | apply below_alloc | apply pw_below_drewN | apply below_drew1) | exact HB.out)) hb); have n1_ := Aside0.mk (hbox); have n2_ := Aside0.mk ((by rw [hg]; exact (below_size (by repeat (first | (with_reducible first | exact HB.out | apply below_alloc | apply pw_below_drewN | apply below_drew1) | exact HB.out))) : w.heap.size ≤ gb136)); have n3_ := Aside0.mk ((by rw [hg]; exact (below_size (by repeat (first | (with_reducible first | exact HB.out | apply below_alloc | apply pw_below_drewN | apply below_drew1) | exact HB.out))) : w.heap.size ≤ gb136)); clear HB; have HB := n0_; have BK136 := n1_; have GW136 := n2_; have GE136 := n3_; clear n0_ n1_ n2_ n3_; clear hb hbox hg) | ((with_reducible refine gate_dst (N := 3) rfl ?_); refine box_event ?hg (N := 3) ?hd (cs := #[.int .i64 a1_0, .int .i64 a1_1, .string a1_2, .string a1_3, .slice A1_4 l1_4.length c1_4, .int .i64 a1_5, .slice A1_6 l1_6.length c1_6, .int .i64 a1_7, .int .i64 a1_8, .int .i64 a1_9]) (t := 61) ?hr ?_; (case hd => rfl); (case hg => rfl); (case hr => first | (go_simp; done) | (go_simp; rfl)); intro gb137 hg w55 hbox hb; have n0_ := Aside0.mk (blk_below (g := gb136) (o := .cells #[.int .i64 a0_0, .int .i64 a0_1, .string a0_2, .string a0_3, .slice A0_4 l0_4.length c0_4, .int .i64 a0_5, .slice A0_6 l0_6.length c0_6, .int .i64 a0_7, .int .i64 a0_8, .int .i64 a0_9] 61 (0, 0)) (by (with_reducible repeat (first | refine blk_drewN ?_ _ | refine blk_drew ?_ | refine blk_alloc ?_ _)); exact BK136.out) hb); have n1_ := Aside0.mk (below_step (by repeat (first | (with_reducible first | exact HB.out | apply below_alloc | apply pw_below_drewN | apply below_drew1 | refine below_set ?_ GE136.out) | exact HB.out)) hb); have n2_ := Aside0.mk (hbox); have n3_ := Aside0.mk ((by rw [hg]; exact (below_size (by repeat (first | (with_reducible first | exact HB.out | apply below_alloc | apply pw_below_drewN | apply below_drew1 | refine below_set ?_ GE136.out) | exact HB.out))) : w.heap.size ≤ gb137)); have n4_ := Aside0.mk ((by rw [hg]; exact (below_size (by repeat (first | (with_reducible first | exact HB.out | apply below_alloc | apply pw_below_drewN | apply below_drew1 | refine below_set ?_ GE136.out) | exact HB.out))) : w.heap.size ≤ gb137)); have n5_ := Aside0.mk ((by rw [hg]; exact Nat.ne_of_lt (blk_lt (g := gb136) (o := .cells #[.int .i64 a0_0, .int .i64 a0_1, .string a0_2, .string a0_3, .slice A0_4 l0_4.length c0_4, .int .i64 a0_5, .slice A0_6 l0_6.length c0_6, .int .i64 a0_7, .int .i64 a0_8, .int .i64 a0_9] 61 (0, 0)) (by (with_reducible repeat (first | refine blk_drewN ?_ _ | refine blk_drew ?_ | refine blk_alloc ?_ _)); exact BK136.out)) : gb136 ≠ gb137)); have n6_ := Aside0.mk ((by rw [hg]; exact Nat.ne_of_gt (blk_lt (g := gb136) (o := .cells #[.int .i64 a0_0, .int .i64 a0_1, .string a0_2, .string a0_3, .slice A0_4 l0_4.length c0_4, .int .i64 a0_5, .slice A0_6 l0_6.length c0_6, .int .i64 a0_7, .int .i64 a0_8, .int .i64 a0_9] 61 (0, 0)) (by (with_reducible repeat (first | refine blk_drewN ?_ _ | refine blk_drew ?_ | refine blk_alloc ?_ _)); exact BK136.out)) : gb137 ≠ gb136)); clear BK136; clear HB; have BK136 := n0_; have HB := n1_; have BK137 := n2_; have GW137 := n3_; have GE137 := n4_; have NB136_137 := n5_; have NB137_136 := n6_; clear n0_ n1_ n2_ n3_ n4_ n5_ n6_; clear hb hbox hg; have hnb56 := NB136_137.out; have hnc56 := NB137_136.out; have hcz57_0 : w55.cell? ⟨gb136, 0, none⟩ = some (.int .i64 a0_0) := (blk_cell BK136.out 0).trans rfl; have hcz57_1 : w55.cell? ⟨gb136, 1, none⟩ = some (.int .i64 a0_1) := (blk_cell BK136.out 1).trans rfl; have hcz57_2 : w55.cell? ⟨gb136, 2, none⟩ = some (.string a0_2) := (blk_cell BK136.out 2).trans rfl; have hcz57_3 : w55.cell? ⟨gb136, 3, none⟩ = some (.string a0_3) := (blk_cell BK136.out 3).trans rfl; have hcz57_4 : w55.cell? ⟨gb136, 4, none⟩ = some (.slice A0_4 l0_4.length c0_4) := (blk_cell BK136.out 4).trans rfl; have hcz57_5 : w55.cell? ⟨gb136, 5, none⟩ = some (.int .i64 a0_5) := (blk_cell BK136.out 5).trans rfl; have hcz57_6 : w55.cell? ⟨gb136, 6, none⟩ = some (.slice A0_6 l0_6.length c0_6) := (blk_cell BK136.out 6).trans rfl; have hcz57_7 : w55.cell? ⟨gb136, 7, none⟩ = some (.int .i64 a0_7) := (blk_cell BK136.out 7).trans rfl; have hcz57_8 : w55.cell? ⟨gb136, 8, none⟩ = some (.int .i64 a0_8) := (blk_cell BK136.out 8).trans rfl; have hcz57_9 : w55.cell? ⟨gb136, 9, none⟩ = some (.int .i64 a0_9) := (blk_cell BK136.out 9).trans rfl; have hfz57_0 := blk_frozen BK136.out 0; have hfz57_1 := blk_frozen BK136.out 1; have hfz57_2 := blk_frozen BK136.out 2; have hfz57_3 := blk_frozen BK136.out 3; have hfz57_4 := blk_frozen BK136.out 4; have hfz57_5 := blk_frozen BK136.out 5; have hfz57_6 := blk_frozen BK136.out 6; have hfz57_7 := blk_frozen BK136.out 7; have hfz57_8 := blk_frozen BK136.out 8; have hfz57_9 := blk_frozen BK136.out 9; have hcz58_0 : w55.cell? ⟨gb137, 0, none⟩ = some (.int .i64 a1_0) := (blk_cell BK137.out 0).trans rfl; have hcz58_1 : w55.cell? ⟨gb137, 1, none⟩ = some (.int .i64 a1_1) := (blk_cell BK137.out 1).trans rfl; have hcz58_2 : w55.cell? ⟨gb137, 2, none⟩ = some (.string a1_2) := (blk_cell BK137.out 2).trans rfl; have hcz58_3 : w55.cell? ⟨gb137, 3, none⟩ = some (.string a1_3) := (blk_cell BK137.out 3).trans rfl; have hcz58_4 : w55.cell? ⟨gb137, 4, none⟩ = some (.slice A1_4 l1_4.length c1_4) := (blk_cell BK137.out 4).trans rfl; have hcz58_5 : w55.cell? ⟨gb137, 5, none⟩ = some (.int .i64 a1_5) := (blk_cell BK137.out 5).trans rfl; have hcz58_6 : w55.cell? ⟨gb137, 6, none⟩ = some (.slice A1_6 l1_6.length c1_6) := (blk_cell BK137.out 6).trans rfl; have hcz58_7 : w55.cell? ⟨gb137, 7, none⟩ = some (.int .i64 a1_7) := (blk_cell BK137.out 7).trans rfl; have hcz58_8 : w55.cell? ⟨gb137, 8, none⟩ = some (.int .i64 a1_8) := (blk_cell BK137.out 8).trans rfl; have hcz58_9 : w55.cell? ⟨gb137, 9, none⟩ = some (.int .i64 a1_9) := (blk_cell BK137.out 9).trans rfl; have hfz58_0 := blk_frozen BK137.out 0; have hfz58_1 := blk_frozen BK137.out 1; have hfz58_2 := blk_frozen BK137.out 2; have hfz58_3 := blk_frozen BK137.out 3; have hfz58_4 := blk_frozen BK137.out 4; have hfz58_5 := blk_frozen BK137.out 5; have hfz58_6 := blk_frozen BK137.out 6; have hfz58_7 := blk_frozen BK137.out 7; have hfz58_8 := blk_frozen BK137.out 8; have hfz58_9 := blk_frozen BK137.out 9))
      go_ret
      exact ⟨by first | rfl | (simp [errW_none, errW_some] <;> rfl) | (simp [*, errW_none, errW_some] <;> rfl), by repeat (first | (with_reducible first | exact HB.out | apply below_alloc | apply pw_below_drewN | apply below_drew1 | refine below_set ?_ GE136.out | refine below_set ?_ GE137.out) | exact HB.out)⟩
  · rw [if_neg c3] at H
    have c3b0 : (a0_0 == a1_0) = false := beq_eq_false_iff_ne.mpr c3
    have c3b1 : (a0_0 != a1_0) = true := bne_iff_ne.mpr c3
    obtain rfl := Option.some.inj H
    go_enter Tryd.func45, Tryd.ntmps45
    go_wp2_with (first | ((with_reducible refine gate_dst (N := 2) rfl ?_); refine box_event ?hg (N := 2) ?hd (cs := #[.int .i64 a0_0, .int .i64 a0_1, .string a0_2, .string a0_3, .slice A0_4 l0_4.length c0_4, .int .i64 a0_5, .slice A0_6 l0_6.length c0_6, .int .i64 a0_7, .int .i64 a0_8, .int .i64 a0_9]) (t := 61) ?hr ?_; (case hd => rfl); (case hg => rfl); (case hr => first | (go_simp; done) | (go_simp; rfl)); intro gb136 hg w59 hbox hb; have n0_ := Aside0.mk (below_step (by repeat (first | (with_reducible first | exact HB.out | apply below_alloc | apply pw_below_drewN | apply below_drew1) | exact HB.out)) hb); have n1_ := Aside0.mk (hbox); have n2_ := Aside0.mk ((by rw [hg]; exact (below_size (by repeat (first | (with_reducible first | exact HB.out | apply below_alloc | apply pw_below_drewN | apply below_drew1) | exact HB.out))) : w.heap.size ≤ gb136)); have n3_ := Aside0.mk ((by rw [hg]; exact (below_size (by repeat (first | (with_reducible first | exact HB.out | apply below_alloc | apply pw_below_drewN | apply below_drew1) | exact HB.out))) : w.heap.size ≤ gb136)); clear HB; have HB := n0_; have BK136 := n1_; have GW136 := n2_; have GE136 := n3_; clear n0_ n1_ n2_ n3_; clear hb hbox hg) | ((with_reducible refine gate_dst (N := 3) rfl ?_); refine box_event ?hg (N := 3) ?hd (cs := #[.int .i64 a1_0, .int .i64 a1_1, .string a1_2, .string a1_3, .slice A1_4 l1_4.length c1_4, .int .i64 a1_5, .slice A1_6 l1_6.length c1_6, .int .i64 a1_7, .int .i64 a1_8, .int .i64 a1_9]) (t := 61) ?hr ?_; (case hd => rfl); (case hg => rfl); (case hr => first | (go_simp; done) | (go_simp; rfl)); intro gb137 hg w60 hbox hb; have n0_ := Aside0.mk (blk_below (g := gb136) (o := .cells #[.int .i64 a0_0, .int .i64 a0_1, .string a0_2, .string a0_3, .slice A0_4 l0_4.length c0_4, .int .i64 a0_5, .slice A0_6 l0_6.length c0_6, .int .i64 a0_7, .int .i64 a0_8, .int .i64 a0_9] 61 (0, 0)) (by (with_reducible repeat (first | refine blk_drewN ?_ _ | refine blk_drew ?_ | refine blk_alloc ?_ _)); exact BK136.out) hb); have n1_ := Aside0.mk (below_step (by repeat (first | (with_reducible first | exact HB.out | apply below_alloc | apply pw_below_drewN | apply below_drew1 | refine below_set ?_ GE136.out) | exact HB.out)) hb); have n2_ := Aside0.mk (hbox); have n3_ := Aside0.mk ((by rw [hg]; exact (below_size (by repeat (first | (with_reducible first | exact HB.out | apply below_alloc | apply pw_below_drewN | apply below_drew1 | refine below_set ?_ GE136.out) | exact HB.out))) : w.heap.size ≤ gb137)); have n4_ := Aside0.mk ((by rw [hg]; exact (below_size (by repeat (first | (with_reducible first | exact HB.out | apply below_alloc | apply pw_below_drewN | apply below_drew1 | refine below_set ?_ GE136.out) | exact HB.out))) : w.heap.size ≤ gb137)); have n5_ := Aside0.mk ((by rw [hg]; exact Nat.ne_of_lt (blk_lt (g := gb136) (o := .cells #[.int .i64 a0_0, .int .i64 a0_1, .string a0_2, .string a0_3, .slice A0_4 l0_4.length c0_4, .int .i64 a0_5, .slice A0_6 l0_6.length c0_6, .int .i64 a0_7, .int .i64 a0_8, .int .i64 a0_9] 61 (0, 0)) (by (with_reducible repeat (first | refine blk_drewN ?_ _ | refine blk_drew ?_ | refine blk_alloc ?_ _)); exact BK136.out)) : gb136 ≠ gb137)); have n6_ := Aside0.mk ((by rw [hg]; exact Nat.ne_of_gt (blk_lt (g := gb136) (o := .cells #[.int .i64 a0_0, .int .i64 a0_1, .string a0_2, .string a0_3, .slice A0_4 l0_4.length c0_4, .int .i64 a0_5, .slice A0_6 l0_6.length c0_6, .int .i64 a0_7, .int .i64 a0_8, .int .i64 a0_9] 61 (0, 0)) (by (with_reducible repeat (first | refine blk_drewN ?_ _ | refine blk_drew ?_ | refine blk_alloc ?_ _)); exact BK136.out)) : gb137 ≠ gb136)); clear BK136; clear HB; have BK136 := n0_; have HB := n1_; have BK137 := n2_; have GW137 := n3_; have GE137 := n4_; have NB136_137 := n5_; have NB137_136 := n6_; clear n0_ n1_ n2_ n3_ n4_ n5_ n6_; clear hb hbox hg; have hnb61 := NB136_137.out; have hnc61 := NB137_136.out; have hcz62_0 : w60.cell? ⟨gb136, 0, none⟩ = some (.int .i64 a0_0) := (blk_cell BK136.out 0).trans rfl; have hcz62_1 : w60.cell? ⟨gb136, 1, none⟩ = some (.int .i64 a0_1) := (blk_cell BK136.out 1).trans rfl; have hcz62_2 : w60.cell? ⟨gb136, 2, none⟩ = some (.string a0_2) := (blk_cell BK136.out 2).trans rfl; have hcz62_3 : w60.cell? ⟨gb136, 3, none⟩ = some (.string a0_3) := (blk_cell BK136.out 3).trans rfl; have hcz62_4 : w60.cell? ⟨gb136, 4, none⟩ = some (.slice A0_4 l0_4.length c0_4) := (blk_cell BK136.out 4).trans rfl; have hcz62_5 : w60.cell? ⟨gb136, 5, none⟩ = some (.int .i64 a0_5) := (blk_cell BK136.out 5).trans rfl; have hcz62_6 : w60.cell? ⟨gb136, 6, none⟩ = some (.slice A0_6 l0_6.length c0_6) := (blk_cell BK136.out 6).trans rfl; have hcz62_7 : w60.cell? ⟨gb136, 7, none⟩ = some (.int .i64 a0_7) := (blk_cell BK136.out 7).trans rfl; have hcz62_8 : w60.cell? ⟨gb136, 8, none⟩ = some (.int .i64 a0_8) := (blk_cell BK136.out 8).trans rfl; have hcz62_9 : w60.cell? ⟨gb136, 9, none⟩ = some (.int .i64 a0_9) := (blk_cell BK136.out 9).trans rfl; have hfz62_0 := blk_frozen BK136.out 0; have hfz62_1 := blk_frozen BK136.out 1; have hfz62_2 := blk_frozen BK136.out 2; have hfz62_3 := blk_frozen BK136.out 3; have hfz62_4 := blk_frozen BK136.out 4; have hfz62_5 := blk_frozen BK136.out 5; have hfz62_6 := blk_frozen BK136.out 6; have hfz62_7 := blk_frozen BK136.out 7; have hfz62_8 := blk_frozen BK136.out 8; have hfz62_9 := blk_frozen BK136.out 9; have hcz63_0 : w60.cell? ⟨gb137, 0, none⟩ = some (.int .i64 a1_0) := (blk_cell BK137.out 0).trans rfl; have hcz63_1 : w60.cell? ⟨gb137, 1, none⟩ = some (.int .i64 a1_1) := (blk_cell BK137.out 1).trans rfl; have hcz63_2 : w60.cell? ⟨gb137, 2, none⟩ = some (.string a1_2) := (blk_cell BK137.out 2).trans rfl; have hcz63_3 : w60.cell? ⟨gb137, 3, none⟩ = some (.string a1_3) := (blk_cell BK137.out 3).trans rfl; have hcz63_4 : w60.cell? ⟨gb137, 4, none⟩ = some (.slice A1_4 l1_4.length c1_4) := (blk_cell BK137.out 4).trans rfl; have hcz63_5 : w60.cell? ⟨gb137, 5, none⟩ = some (.int .i64 a1_5) := (blk_cell BK137.out 5).trans rfl; have hcz63_6 : w60.cell? ⟨gb137, 6, none⟩ = some (.slice A1_6 l1_6.length c1_6) := (blk_cell BK137.out 6).trans rfl; have hcz63_7 : w60.cell? ⟨gb137, 7, none⟩ = some (.int .i64 a1_7) := (blk_cell BK137.out 7).trans rfl; have hcz63_8 : w60.cell? ⟨gb137, 8, none⟩ = some (.int .i64 a1_8) := (blk_cell BK137.out 8).trans rfl; have hcz63_9 : w60.cell? ⟨gb137, 9, none⟩ = some (.int .i64 a1_9) := (blk_cell BK137.out 9).trans rfl; have hfz63_0 := blk_frozen BK137.out 0; have hfz63_1 := blk_frozen BK137.out 1; have hfz63_2 := blk_frozen BK137.out 2; have hfz63_3 := blk_frozen BK137.out 3; have hfz63_4 := blk_frozen BK137.out 4; have hfz63_5 := blk_frozen BK137.out 5; have hfz63_6 := blk_frozen BK137.out 6; have hfz63_7 := blk_frozen BK137.out 7; have hfz63_8 := blk_frozen BK137.out 8; have hfz63_9 := blk_frozen BK137.out 9))
    go_ret
    exact ⟨by first | rfl | (simp [errW_none, errW_some] <;> rfl) | (simp [*, errW_none, errW_some] <;> rfl), by repeat (first | (with_reducible first | exact HB.out | apply below_alloc | apply pw_below_drewN | apply below_drew1 | refine below_set ?_ GE136.out | refine below_set ?_ GE137.out) | exact HB.out)⟩
def cachepotbook_Short.f (a0 : ByteArray) (a1 : Int) : Option (ByteArray) := if 0 ≤ (mn (a0.size : Int) a1) then (if (mn (a0.size : Int) a1) ≤ (a0.size : Int) then (some (a0.extract 0 ((mn (a0.size : Int) a1) : Int).toNat)) else (none)) else (none)
def cachepotbook_Texts.l0 : Nat → List ByteArray → Int → Int → List ByteArray → Int → Option (List ByteArray)
  | 0, _, _, _, _, _ => none
  | k + 1, x0, x1, x2, x7, x8 => if x8 < (x0.length : Int) then (if x8 < x1 then (if 0 ≤ x8 then ((cachepotbook_Short.f (rdOf ByteArray.empty x0 x8) x2).bind fun t141 => (if x7.length < 8796093022208 then (cachepotbook_Texts.l0 k x0 x1 x2 (x7 ++ [t141]) (wrap64 (x8 + 1))) else (none))) else (none)) else (some x7)) else (some x7)
def cachepotbook_Texts.f (k : Nat) (l0 : List ByteArray) (a1 : Int) (a2 : Int) : Option (List ByteArray) := cachepotbook_Texts.l0 k l0 a1 a2 ([] : List ByteArray) 0
def cachepotbook_Pick.f (a0 : Int) (a1 : Int) : Option (Int) := if a1 = 0 then (none) else (if (Int.tmod a0 a1) < 0 then (some (wrap64 ((Int.tmod a0 a1) + a1))) else (some (Int.tmod a0 a1)))
end Go.Proofs.YtfaelejeihmgcaaDoor.Stp
end
