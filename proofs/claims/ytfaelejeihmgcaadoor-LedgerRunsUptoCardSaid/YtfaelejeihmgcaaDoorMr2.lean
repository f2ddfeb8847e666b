/-
  Texts of mine, and texts that print.sh and pp.py wrote, merged and cut to what is used: Lg8, Lg9, PureR, HandO, HandP, Atm, HandM, HandR, Lg13
-/
import Derived.Test.YtfaelejeihmgcaaDoorProg
import Derived.Below
import Derived.Lib.ItoaMem
import Derived.Lib.LaidTab
import Derived.Deep.Draws
import Derived.Deep.AppendLies
import Derived.Maps.AppendAt
import Derived.OwnWalk
import Derived.Laws.BytesArg
import Derived.Laws.MakeOwn
import Derived.Laws.OwnMore
import Derived.Deep.OwnRows
import Derived.Tactics
import Derived.Lib.ConvBytes
import Derived.Laws.Slices
import Derived.WalkKit
import Derived.KernelRfl
import Derived.RowKit3
import Derived.Deep.LoopGhost
import Derived.Deep.QuietTactic
import Derived.BigQuiet
import Derived.WideLaws
import Derived.Deep.DeepCutAuto
import Derived.Deep.CutBlock
import Derived.Deep.RegionHeld3
import Derived.Laws.Rows
import Derived.Lib.AppendStr
import Derived.ArgAppend
import Derived.Laws.IdiomCopy
import Derived.RowKit
import Derived.Test.YtfaelejeihmgcaaDoorRows
import Derived.ChangeArms
import Derived.DataReads
import Derived.DataElems
import Derived.OrdersHeld
import Derived.Laws.BitsLemmas
import Derived.Laws.StructEq
import Derived.Test.YtfaelejeihmgcaaDoorCards
import Derived.Test.YtfaelejeihmgcaaDoorTie
import Derived.Lib.LaidU8
import Derived.LaidMore
import Derived.Lay
import Derived.ProofKit
import Derived.OpenShut
import Derived.SevenTiedAt
import Derived.Stop.Joined
import Derived.Deep.DeepHandedRow
import Derived.SliceStrings
import Derived.Carry
import Derived.Shelf.Strconv.Itoa0
import Derived.Shelf.Strconv.Itoa1
import Derived.Shelf.LaysM
import Derived.Shelf.Strconv.Itoa2
import Derived.Lib.Strings
import Derived.Lib.Slices
import Derived.Lib.Walk
import Derived.Lib.Builder
import Derived.Lib.UnsafeStr
import Derived.Shelf.Strings.Builder1
import Derived.Shelf.Strings.OnBuilder
import Derived.Shelf.Unicode.DecodeSlow
import Derived.Shelf.Unicode.DecodeAny
import Derived.Laws.Externs
import Derived.Lib.DecodeNEq
import Derived.StillTailTactics
import Derived.Outline
import Derived.Lib.Hide
import Derived.IntWalk
import Derived.WalkSpells
import Derived.Tactics2
import Derived.Laws.Pointers
import Derived.Lib.AppendIntMem
import Derived.BigCall
import Derived.BigGuard
import Derived.FnData
import Derived.Deep.MidRow
import Derived.Maps.OwnSet
import Derived.StillTactics
import Derived.Test.YtfaelejeihmgcaaDoorMr0
import Derived.Test.YtfaelejeihmgcaaDoorMr1

section
namespace Go.Proofs.YtfaelejeihmgcaaDoor.Lgx
open Go.RowKit Go.Proofs.YtfaelejeihmgcaaDoorW.PrintWords Go.Proofs.YtfaelejeihmgcaaDoorW.PrintLast Go.Proofs.YtfaelejeihmgcaaDoorW.PrintMore
attribute [local go_sem] max2_int min2_int max_two min_two max_three min_three max_four min_four   -- for this text's walks alone
set_option linter.unusedVariables false
set_option linter.unusedSimpArgs false
mutual
def cachepotref1_Rune.j0 : Nat → ByteArray → Int → Int → Option (Int × Int)
  | 0, _, _, _ => none
  | k + 1, x0, x1, x6 => if x6 = 224 then (cachepotref1_Rune.j1 k x0 x1 x6 160 191) else (if x6 = 237 then (cachepotref1_Rune.j1 k x0 x1 x6 128 159) else (if x6 = 240 then (cachepotref1_Rune.j1 k x0 x1 x6 144 191) else (if x6 = 244 then (cachepotref1_Rune.j1 k x0 x1 x6 128 143) else (cachepotref1_Rune.j1 k x0 x1 x6 128 191))))
def cachepotref1_Rune.j1 : Nat → ByteArray → Int → Int → Int → Int → Option (Int × Int)
  | 0, _, _, _, _, _ => none
  | k + 1, x0, x1, x6, x7, x8 => if x6 ≥ 224 then (if x6 ≤ 239 then ((cachepotref1_follows.f x0 (wrap64 (x1 + 1)) x7 x8).bind fun t219 => (if t219 = true then ((cachepotref1_follows.f x0 (wrap64 (x1 + 2)) 128 191).bind fun t220 => (cachepotref1_Rune.j2 k x0 x1 x6 x7 x8 t220)) else (cachepotref1_Rune.j2 k x0 x1 x6 x7 x8 false))) else (cachepotref1_Rune.j2 k x0 x1 x6 x7 x8 false)) else (cachepotref1_Rune.j2 k x0 x1 x6 x7 x8 false)
def cachepotref1_Rune.j2 : Nat → ByteArray → Int → Int → Int → Int → Bool → Option (Int × Int)
  | 0, _, _, _, _, _, _ => none
  | k + 1, x0, x1, x6, x7, x8, x69 => if x69 = true then (if 0 ≤ (wrap64 (x1 + 1)) then (if (wrap64 (x1 + 1)) < (x0.size : Int) then (if 0 ≤ (wrap64 (x1 + 2)) then (if (wrap64 (x1 + 2)) < (x0.size : Int) then (some (wrap64 ((wrap64 ((wrap64 ((wrap64 (Go.bits .and .u8 x6 15)) * 4096)) + (wrap64 ((wrap64 (Go.bits .and .u8 (bt x0 (wrap64 (x1 + 1))) 63)) * 64)))) + (wrap64 (Go.bits .and .u8 (bt x0 (wrap64 (x1 + 2))) 63))), 3)) else (none)) else (none)) else (none)) else (none)) else (if x6 ≥ 240 then (if x6 ≤ 244 then ((cachepotref1_follows.f x0 (wrap64 (x1 + 1)) x7 x8).bind fun t221 => (if t221 = true then ((cachepotref1_follows.f x0 (wrap64 (x1 + 2)) 128 191).bind fun t222 => (if t222 = true then ((cachepotref1_follows.f x0 (wrap64 (x1 + 3)) 128 191).bind fun t223 => (if t223 = true then (if 0 ≤ (wrap64 (x1 + 1)) then (if (wrap64 (x1 + 1)) < (x0.size : Int) then (if 0 ≤ (wrap64 (x1 + 2)) then (if (wrap64 (x1 + 2)) < (x0.size : Int) then (if 0 ≤ (wrap64 (x1 + 3)) then (if (wrap64 (x1 + 3)) < (x0.size : Int) then (some (wrap64 ((wrap64 ((wrap64 ((wrap64 ((wrap64 (Go.bits .and .u8 x6 7)) * 262144)) + (wrap64 ((wrap64 (Go.bits .and .u8 (bt x0 (wrap64 (x1 + 1))) 63)) * 4096)))) + (wrap64 ((wrap64 (Go.bits .and .u8 (bt x0 (wrap64 (x1 + 2))) 63)) * 64)))) + (wrap64 (Go.bits .and .u8 (bt x0 (wrap64 (x1 + 3))) 63))), 4)) else (none)) else (none)) else (none)) else (none)) else (none)) else (none)) else (some (65533, 1)))) else (some (65533, 1)))) else (some (65533, 1)))) else (some (65533, 1))) else (some (65533, 1)))
end
def cachepotref1_Rune.f (k : Nat) (a0 : ByteArray) (a1 : Int) : Option (Int × Int) := if 0 ≤ a1 then (if a1 < (a0.size : Int) then (if (bt a0 a1) < 128 then (some (wrap64 (bt a0 a1), 1)) else (if (bt a0 a1) ≥ 194 then (if (bt a0 a1) ≤ 223 then ((cachepotref1_follows.f a0 (wrap64 (a1 + 1)) 128 191).bind fun t218 => (if t218 = true then (if 0 ≤ (wrap64 (a1 + 1)) then (if (wrap64 (a1 + 1)) < (a0.size : Int) then (some (wrap64 ((wrap64 ((wrap64 (Go.bits .and .u8 (bt a0 a1) 31)) * 64)) + (wrap64 (Go.bits .and .u8 (bt a0 (wrap64 (a1 + 1))) 63))), 2)) else (none)) else (none)) else (cachepotref1_Rune.j0 k a0 a1 (bt a0 a1)))) else (cachepotref1_Rune.j0 k a0 a1 (bt a0 a1))) else (cachepotref1_Rune.j0 k a0 a1 (bt a0 a1)))) else (none)) else (none)
set_option maxHeartbeats 8000000 in
set_option maxRecDepth 100000 in
theorem cachepotref1_Rune.calls (k : Nat) (a0 : ByteArray) (a1 : Int) (r1 : Int) (r2 : Int) (w : World) (h : cachepotref1_Rune.f k a0 a1 = some (r1, r2)) :
    Calls Tryd.prog 60 #[.string a0, .int .i64 a1] w fun e w' => e = .returned (.tuple #[.int .i64 r1, .int .i64 r2]) ∧ Drawn0 w w' := by
  have H : (if 0 ≤ a1 then (if a1 < (a0.size : Int) then (if (bt a0 a1) < 128 then (some (wrap64 (bt a0 a1), 1)) else (if (bt a0 a1) ≥ 194 then (if (bt a0 a1) ≤ 223 then ((cachepotref1_follows.f a0 (wrap64 (a1 + 1)) 128 191).bind fun t218 => (if t218 = true then (if 0 ≤ (wrap64 (a1 + 1)) then (if (wrap64 (a1 + 1)) < (a0.size : Int) then (some (wrap64 ((wrap64 ((wrap64 (Go.bits .and .u8 (bt a0 a1) 31)) * 64)) + (wrap64 (Go.bits .and .u8 (bt a0 (wrap64 (a1 + 1))) 63))), 2)) else (none)) else (none)) else (cachepotref1_Rune.j0 k a0 a1 (bt a0 a1)))) else (cachepotref1_Rune.j0 k a0 a1 (bt a0 a1))) else (cachepotref1_Rune.j0 k a0 a1 (bt a0 a1)))) else (none)) else (none)) = some (r1, r2) := h
  clear h
  by_cases c3 : 0 ≤ a1
  · rw [if_pos c3] at H
    have c3b0 : decide (0 ≤ a1) = true := decide_eq_true c3
    clear c3
    by_cases c4 : a1 < (a0.size : Int)
    · rw [if_pos c4] at H
      have c4b0 : decide (a1 < (a0.size : Int)) = true := decide_eq_true c4
      clear c4
      have HC6 := Aside0.mk H
      clear H
      have p5 : 0 ≤ (a1 : Int) := of_decide_eq_true (by first | (with_reducible assumption) | assumption)
      have q5 : a1 < (a0.size : Int) := of_decide_eq_true (by first | (with_reducible assumption) | assumption)
      have hx5 := bt_at a0 a1
      replace p5 := eq_true p5
      replace q5 := eq_true q5
      go_enter Tryd.func60, Tryd.ntmps60
      go_upto_block 0 with (fail)
      repeat (go_quiet (fail); go_upto_block 0 with (fail))
      go_cut [] (fun wc => ∃ (kq : Nat), Aside0 (cachepotref1_Rune.j0 kq a0 a1 (bt a0 a1) = some (r1, r2)) ∧ Aside0 (kq ≤ k) ∧ Drawn0 w wc)
      case first =>
        have H := HC6.out
        clear HC6
        by_cases c7 : (bt a0 a1) < 128
        · rw [if_pos c7] at H
          have c7b0 : decide ((bt a0 a1) < 128) = true := decide_eq_true c7
          clear c7
          (first | rw [c7b0] | (simp only [i64_w, i32_w]; rw [c7b0]) | skip)
          simp only [Option.some.injEq, Prod.mk.injEq] at H
          obtain ⟨rfl, rfl⟩ := H
          go_wp2
          repeat (go_quiet (fail); try go_wp2)
          go_ret2
          exact ⟨by first | rfl | (simp; done) | (simp [*]; done), by repeat (first | exact Drawn0.refl _ | apply Drawn0.step)⟩
        · rw [if_neg c7] at H
          have c7b0 : decide ((bt a0 a1) < 128) = false := decide_eq_false c7
          clear c7
          (first | rw [c7b0] | (simp only [i64_w, i32_w]; rw [c7b0]) | skip)
          by_cases c8 : (bt a0 a1) ≥ 194
          · rw [if_pos c8] at H
            have c8b0 : decide (194 ≤ (bt a0 a1)) = true := decide_eq_true c8
            clear c8
            by_cases c9 : (bt a0 a1) ≤ 223
            · rw [if_pos c9] at H
              have c9b0 : decide ((bt a0 a1) ≤ 223) = true := decide_eq_true c9
              clear c9
              replace H := Option.bind_eq_some_iff.mp H
              obtain ⟨t218, A100, H⟩ := H
              replace H : (if t218 = true then (if 0 ≤ (wrap64 (a1 + 1)) then (if (wrap64 (a1 + 1)) < (a0.size : Int) then (some (wrap64 ((wrap64 ((wrap64 (Go.bits .and .u8 (bt a0 a1) 31)) * 64)) + (wrap64 (Go.bits .and .u8 (bt a0 (wrap64 (a1 + 1))) 63))), 2)) else (none)) else (none)) else (cachepotref1_Rune.j0 k a0 a1 (bt a0 a1))) = some (r1, r2) := H
              have A10 := Aside0.mk A100
              clear A100
              by_cases c11 : t218 = true
              · subst c11
                have H1 : (if 0 ≤ (wrap64 (a1 + 1)) then (if (wrap64 (a1 + 1)) < (a0.size : Int) then (some (wrap64 ((wrap64 ((wrap64 (Go.bits .and .u8 (bt a0 a1) 31)) * 64)) + (wrap64 (Go.bits .and .u8 (bt a0 (wrap64 (a1 + 1))) 63))), 2)) else (none)) else (none)) = some (r1, r2) := by rw [if_pos rfl] at H; exact H
                clear H
                have H := H1
                clear H1
                obtain ⟨ji12, hji12⟩ : ∃ j_ : Int, (wrap64 (a1 + 1)) = j_ := ⟨_, rfl⟩
                replace H : (if 0 ≤ (ji12) then (if (ji12) < (a0.size : Int) then (some (wrap64 ((wrap64 ((wrap64 (Go.bits .and .u8 (bt a0 a1) 31)) * 64)) + (wrap64 (Go.bits .and .u8 (bt a0 (ji12)) 63))), 2)) else (none)) else (none)) = some (r1, r2) := by first | (rw [hji12] at H; exact H) | (simp only [hji12] at H ⊢; exact H)
                (try rw [hji12] at A10)
                have hji12w : (IntKind.i64.wrap (a1 + 1)) = ji12 := (i64_w _).trans hji12
                by_cases c13 : 0 ≤ (ji12)
                · rw [if_pos c13] at H
                  have c13b0 : decide (0 ≤ (ji12)) = true := decide_eq_true c13
                  clear c13
                  by_cases c14 : (ji12) < (a0.size : Int)
                  · rw [if_pos c14] at H
                    have c14b0 : decide ((ji12) < (a0.size : Int)) = true := decide_eq_true c14
                    clear c14
                    simp only [Option.some.injEq, Prod.mk.injEq] at H
                    obtain ⟨rfl, rfl⟩ := H
                    go_wp2_with (first | (go_at_call 95; (with_reducible refine (cachepotref1_follows.calls a0 ji12 128 191 true _ A10.out).mono ?_); rintro e w' ⟨rfl, ⟨nd, rfl⟩⟩; (try first | exact ⟨rfl, _, World.drewN_drewN _ _ _⟩ | exact ⟨rfl, _, Eq.trans (World.drewN_drewN _ _ _) (congrArg (World.drewN _) (Nat.add_assoc _ _ _))⟩); have p15 : 0 ≤ ((ji12) : Int) := of_decide_eq_true (by first | (with_reducible assumption) | assumption); have q15 : (ji12) < (a0.size : Int) := of_decide_eq_true (by first | (with_reducible assumption) | assumption); have hx15 := bt_at a0 (ji12); replace p15 := eq_true p15; replace q15 := eq_true q15))
                    repeat (go_quiet (first | (go_at_call 95; (with_reducible refine (cachepotref1_follows.calls a0 ji12 128 191 true _ A10.out).mono ?_); rintro e w' ⟨rfl, ⟨nd, rfl⟩⟩; (try first | exact ⟨rfl, _, World.drewN_drewN _ _ _⟩ | exact ⟨rfl, _, Eq.trans (World.drewN_drewN _ _ _) (congrArg (World.drewN _) (Nat.add_assoc _ _ _))⟩); have p15 : 0 ≤ ((ji12) : Int) := of_decide_eq_true (by first | (with_reducible assumption) | assumption); have q15 : (ji12) < (a0.size : Int) := of_decide_eq_true (by first | (with_reducible assumption) | assumption); have hx15 := bt_at a0 (ji12); replace p15 := eq_true p15; replace q15 := eq_true q15)); try go_wp2_with (first | (go_at_call 95; (with_reducible refine (cachepotref1_follows.calls a0 ji12 128 191 true _ A10.out).mono ?_); rintro e w' ⟨rfl, ⟨nd, rfl⟩⟩; (try first | exact ⟨rfl, _, World.drewN_drewN _ _ _⟩ | exact ⟨rfl, _, Eq.trans (World.drewN_drewN _ _ _) (congrArg (World.drewN _) (Nat.add_assoc _ _ _))⟩); have p15 : 0 ≤ ((ji12) : Int) := of_decide_eq_true (by first | (with_reducible assumption) | assumption); have q15 : (ji12) < (a0.size : Int) := of_decide_eq_true (by first | (with_reducible assumption) | assumption); have hx15 := bt_at a0 (ji12); replace p15 := eq_true p15; replace q15 := eq_true q15)))
                    go_ret2
                    exact ⟨by first | rfl | (simp; done) | (simp only [← hji12] <;> (first | rfl | simp)) | (simp [*]; done), by repeat (first | exact Drawn0.refl _ | apply Drawn0.step)⟩
                  · rw [if_neg c14] at H
                    exact absurd H (by simp)
                · rw [if_neg c13] at H
                  exact absurd H (by simp)
              · replace c11 := Bool.eq_false_iff.mpr c11
                subst c11
                have H1 : (cachepotref1_Rune.j0 k a0 a1 (bt a0 a1)) = some (r1, r2) := by rw [if_neg (show ¬ (false = true) by decide)] at H; exact H
                clear H
                have H := H1
                clear H1
                have H' := Aside0.mk H
                clear H
                go_wp2_with (first | (go_at_call 95; (with_reducible refine (cachepotref1_follows.calls a0 (wrap64 (a1 + 1)) 128 191 false _ A10.out).mono ?_); rintro e w' ⟨rfl, ⟨nd, rfl⟩⟩; (try first | exact ⟨rfl, _, World.drewN_drewN _ _ _⟩ | exact ⟨rfl, _, Eq.trans (World.drewN_drewN _ _ _) (congrArg (World.drewN _) (Nat.add_assoc _ _ _))⟩)))
                repeat (go_quiet (first | (go_at_call 95; (with_reducible refine (cachepotref1_follows.calls a0 (wrap64 (a1 + 1)) 128 191 false _ A10.out).mono ?_); rintro e w' ⟨rfl, ⟨nd, rfl⟩⟩; (try first | exact ⟨rfl, _, World.drewN_drewN _ _ _⟩ | exact ⟨rfl, _, Eq.trans (World.drewN_drewN _ _ _) (congrArg (World.drewN _) (Nat.add_assoc _ _ _))⟩))); try go_wp2_with (first | (go_at_call 95; (with_reducible refine (cachepotref1_follows.calls a0 (wrap64 (a1 + 1)) 128 191 false _ A10.out).mono ?_); rintro e w' ⟨rfl, ⟨nd, rfl⟩⟩; (try first | exact ⟨rfl, _, World.drewN_drewN _ _ _⟩ | exact ⟨rfl, _, Eq.trans (World.drewN_drewN _ _ _) (congrArg (World.drewN _) (Nat.add_assoc _ _ _))⟩))))
                go_meet
                case rel => exact ⟨_, H', ⟨by first | omega | exact Nat.le_refl _⟩, by repeat (first | exact Drawn0.refl _ | apply Drawn0.step)⟩
            · rw [if_neg c9] at H
              have c9b0 : decide ((bt a0 a1) ≤ 223) = false := decide_eq_false c9
              clear c9
              have H' := Aside0.mk H
              clear H
              go_wp2
              repeat (go_quiet (fail); try go_wp2)
              go_meet
              case rel => exact ⟨_, H', ⟨by first | omega | exact Nat.le_refl _⟩, by repeat (first | exact Drawn0.refl _ | apply Drawn0.step)⟩
          · rw [if_neg c8] at H
            have c8b0 : decide (194 ≤ (bt a0 a1)) = false := decide_eq_false c8
            clear c8
            have H' := Aside0.mk H
            clear H
            go_wp2
            repeat (go_quiet (fail); try go_wp2)
            go_meet
            case rel => exact ⟨_, H', ⟨by first | omega | exact Nat.le_refl _⟩, by repeat (first | exact Drawn0.refl _ | apply Drawn0.step)⟩
      case rest =>
        clear HC6
        try clear c1
        try clear p1
        try clear q1
        try clear hx1
        try clear p2
        try clear c3
        try clear c3b0
        try clear c4
        try clear c4b0
        try clear p5
        try clear q5
        try clear hx5
        try clear c6
        try clear p6
        try clear c7
        try clear c7b0
        try clear c8
        try clear c8b0
        try clear c9
        try clear c9b0
        try clear c11
        try clear c13
        try clear c13b0
        try clear c14
        try clear c14b0
        try clear p15
        try clear q15
        try clear hx15
        try clear p15
        try clear p5
        try clear q15
        try clear q5
        obtain ⟨kq, HA, HJ5, ⟨mc5, rfl⟩⟩ := hcut
        cases kq with
        | zero => exact absurd HA.out (by simp [cachepotref1_Rune.j0])
        | succ kj5 =>
          have H := HA.out
          clear HA
          simp only [cachepotref1_Rune.j0] at H
          have HC16 := Aside0.mk H
          clear H
          go_upto_block 1 with (fail)
          repeat (go_quiet (fail); go_upto_block 1 with (fail))
          go_cut [7, 8] (fun v7 v8 wc => ∃ (kq : Nat) (x7_15 : Int) (x8_15 : Int), v7 = .int .u8 x7_15 ∧ v8 = .int .u8 x8_15 ∧ Aside0 (cachepotref1_Rune.j1 kq a0 a1 (bt a0 a1) x7_15 x8_15 = some (r1, r2)) ∧ Aside0 (kq ≤ kj5) ∧ Drawn0 w wc)
          case first =>
            have H := HC16.out
            clear HC16
            by_cases c17 : (bt a0 a1) = 224
            · rw [if_pos c17] at H
              have c17b0 : ((bt a0 a1) == 224) = true := beq_iff_eq.mpr c17
              have c17b1 : ((bt a0 a1) != 224) = false := bne_eq_false_iff_eq.mpr c17
              clear c17
              (first | rw [c17b0] | (simp only [i64_w, i32_w]; rw [c17b0]) | skip)
              have H' := Aside0.mk H
              clear H
              go_wp2
              repeat (go_quiet (fail); try go_wp2)
              go_meet
              case rel => exact ⟨_, (160), (191), (by first | rfl | (simp; done) | (simp [*]; done)), (by first | rfl | (simp; done) | (simp [*]; done)), H', ⟨by have := HJ5.out; first | omega | exact Nat.le_refl _⟩, by repeat (first | exact Drawn0.refl _ | apply Drawn0.step)⟩
            · rw [if_neg c17] at H
              have c17b0 : ((bt a0 a1) == 224) = false := beq_eq_false_iff_ne.mpr c17
              have c17b1 : ((bt a0 a1) != 224) = true := bne_iff_ne.mpr c17
              (first | rw [c17b0] | (simp only [i64_w, i32_w]; rw [c17b0]) | skip)
              by_cases c18 : (bt a0 a1) = 237
              · rw [if_pos c18] at H
                have c18b0 : ((bt a0 a1) == 237) = true := beq_iff_eq.mpr c18
                have c18b1 : ((bt a0 a1) != 237) = false := bne_eq_false_iff_eq.mpr c18
                clear c18
                have H' := Aside0.mk H
                clear H
                go_wp2
                repeat (go_quiet (fail); try go_wp2)
                go_meet
                case rel => exact ⟨_, (128), (159), (by first | rfl | (simp; done) | (simp [*]; done)), (by first | rfl | (simp; done) | (simp [*]; done)), H', ⟨by have := HJ5.out; first | omega | exact Nat.le_refl _⟩, by repeat (first | exact Drawn0.refl _ | apply Drawn0.step)⟩
              · rw [if_neg c18] at H
                have c18b0 : ((bt a0 a1) == 237) = false := beq_eq_false_iff_ne.mpr c18
                have c18b1 : ((bt a0 a1) != 237) = true := bne_iff_ne.mpr c18
                by_cases c19 : (bt a0 a1) = 240
                · rw [if_pos c19] at H
                  have c19b0 : ((bt a0 a1) == 240) = true := beq_iff_eq.mpr c19
                  have c19b1 : ((bt a0 a1) != 240) = false := bne_eq_false_iff_eq.mpr c19
                  clear c19
                  have H' := Aside0.mk H
                  clear H
                  go_wp2
                  repeat (go_quiet (fail); try go_wp2)
                  go_meet
                  case rel => exact ⟨_, (144), (191), (by first | rfl | (simp; done) | (simp [*]; done)), (by first | rfl | (simp; done) | (simp [*]; done)), H', ⟨by have := HJ5.out; first | omega | exact Nat.le_refl _⟩, by repeat (first | exact Drawn0.refl _ | apply Drawn0.step)⟩
                · rw [if_neg c19] at H
                  have c19b0 : ((bt a0 a1) == 240) = false := beq_eq_false_iff_ne.mpr c19
                  have c19b1 : ((bt a0 a1) != 240) = true := bne_iff_ne.mpr c19
                  by_cases c20 : (bt a0 a1) = 244
                  · rw [if_pos c20] at H
                    have c20b0 : ((bt a0 a1) == 244) = true := beq_iff_eq.mpr c20
                    have c20b1 : ((bt a0 a1) != 244) = false := bne_eq_false_iff_eq.mpr c20
                    clear c20
                    have H' := Aside0.mk H
                    clear H
                    go_wp2
                    repeat (go_quiet (fail); try go_wp2)
                    go_meet
                    case rel => exact ⟨_, (128), (143), (by first | rfl | (simp; done) | (simp [*]; done)), (by first | rfl | (simp; done) | (simp [*]; done)), H', ⟨by have := HJ5.out; first | omega | exact Nat.le_refl _⟩, by repeat (first | exact Drawn0.refl _ | apply Drawn0.step)⟩
                  · rw [if_neg c20] at H
                    have c20b0 : ((bt a0 a1) == 244) = false := beq_eq_false_iff_ne.mpr c20
                    have c20b1 : ((bt a0 a1) != 244) = true := bne_iff_ne.mpr c20
                    have H' := Aside0.mk H
                    clear H
                    go_wp2
                    repeat (go_quiet (fail); try go_wp2)
                    go_meet
                    case rel => exact ⟨_, (128), (191), (by first | rfl | (simp; done) | (simp [*]; done)), (by first | rfl | (simp; done) | (simp [*]; done)), H', ⟨by have := HJ5.out; first | omega | exact Nat.le_refl _⟩, by repeat (first | exact Drawn0.refl _ | apply Drawn0.step)⟩
          case rest =>
            clear HC16
            try clear c1
            try clear p1
            try clear q1
            try clear hx1
            try clear c2
            try clear p2
            try clear c3
            try clear c3b0
            try clear c4
            try clear c4b0
            try clear c5
            try clear p5
            try clear q5
            try clear hx5
            try clear c6
            try clear p6
            try clear c7
            try clear c7b0
            try clear c8
            try clear c8b0
            try clear c9
            try clear c9b0
            try clear c11
            try clear c13
            try clear c13b0
            try clear c14
            try clear c14b0
            try clear p15
            try clear q15
            try clear hx15
            try clear c17
            try clear c17b0
            try clear c17b1
            try clear c18
            try clear c18b0
            try clear c18b1
            try clear c19
            try clear c19b0
            try clear c19b1
            try clear c20
            try clear c20b0
            try clear c20b1
            try clear p1
            try clear p15
            try clear p2
            try clear p5
            try clear p6
            try clear q1
            try clear q15
            try clear q5
            obtain ⟨kq, x7_15, x8_15, rfl, rfl, HA, HJ15, ⟨mc15, rfl⟩⟩ := hcut
            cases kq with
            | zero => exact absurd HA.out (by simp [cachepotref1_Rune.j1])
            | succ kj15 =>
              have H := HA.out
              clear HA
              simp only [cachepotref1_Rune.j1] at H
              have HC21 := Aside0.mk H
              clear H
              go_upto_region 16 with (fail)
              repeat (go_quiet (fail); go_upto_region 16 with (fail))
              go_cut [69] (fun v69 wc => ∃ (kq : Nat) (x69_20 : Bool), v69 = .bool x69_20 ∧ Aside0 (cachepotref1_Rune.j2 kq a0 a1 (bt a0 a1) x7_15 x8_15 x69_20 = some (r1, r2)) ∧ Aside0 (kq ≤ kj15) ∧ Drawn0 w wc)
              case first =>
                have H := HC21.out
                clear HC21
                by_cases c22 : (bt a0 a1) ≥ 224
                · rw [if_pos c22] at H
                  have c22b0 : decide (224 ≤ (bt a0 a1)) = true := decide_eq_true c22
                  clear c22
                  (first | rw [c22b0] | (simp only [i64_w, i32_w]; rw [c22b0]) | skip)
                  by_cases c23 : (bt a0 a1) ≤ 239
                  · rw [if_pos c23] at H
                    have c23b0 : decide ((bt a0 a1) ≤ 239) = true := decide_eq_true c23
                    clear c23
                    replace H := Option.bind_eq_some_iff.mp H
                    obtain ⟨t219, A240, H⟩ := H
                    replace H : (if t219 = true then ((cachepotref1_follows.f a0 (wrap64 (a1 + 2)) 128 191).bind fun t220 => (cachepotref1_Rune.j2 kj15 a0 a1 (bt a0 a1) x7_15 x8_15 t220)) else (cachepotref1_Rune.j2 kj15 a0 a1 (bt a0 a1) x7_15 x8_15 false)) = some (r1, r2) := H
                    have A24 := Aside0.mk A240
                    clear A240
                    by_cases c25 : t219 = true
                    · subst c25
                      have H1 : ((cachepotref1_follows.f a0 (wrap64 (a1 + 2)) 128 191).bind fun t220 => (cachepotref1_Rune.j2 kj15 a0 a1 (bt a0 a1) x7_15 x8_15 t220)) = some (r1, r2) := by rw [if_pos rfl] at H; exact H
                      clear H
                      have H := H1
                      clear H1
                      replace H := Option.bind_eq_some_iff.mp H
                      obtain ⟨t220, A260, H⟩ := H
                      replace H : (cachepotref1_Rune.j2 kj15 a0 a1 (bt a0 a1) x7_15 x8_15 t220) = some (r1, r2) := H
                      have A26 := Aside0.mk A260
                      clear A260
                      have H' := Aside0.mk H
                      clear H
                      go_wp2_with (first | (go_at_call 95; (with_reducible refine (cachepotref1_follows.calls a0 (wrap64 (a1 + 1)) x7_15 x8_15 true _ A24.out).mono ?_); rintro e w' ⟨rfl, ⟨nd, rfl⟩⟩; (try first | exact ⟨rfl, _, World.drewN_drewN _ _ _⟩ | exact ⟨rfl, _, Eq.trans (World.drewN_drewN _ _ _) (congrArg (World.drewN _) (Nat.add_assoc _ _ _))⟩)) | (go_at_call 95; (with_reducible refine (cachepotref1_follows.calls a0 (wrap64 (a1 + 2)) 128 191 t220 _ A26.out).mono ?_); rintro e w' ⟨rfl, ⟨nd, rfl⟩⟩; (try first | exact ⟨rfl, _, World.drewN_drewN _ _ _⟩ | exact ⟨rfl, _, Eq.trans (World.drewN_drewN _ _ _) (congrArg (World.drewN _) (Nat.add_assoc _ _ _))⟩)))
                      repeat (go_quiet (first | (go_at_call 95; (with_reducible refine (cachepotref1_follows.calls a0 (wrap64 (a1 + 1)) x7_15 x8_15 true _ A24.out).mono ?_); rintro e w' ⟨rfl, ⟨nd, rfl⟩⟩; (try first | exact ⟨rfl, _, World.drewN_drewN _ _ _⟩ | exact ⟨rfl, _, Eq.trans (World.drewN_drewN _ _ _) (congrArg (World.drewN _) (Nat.add_assoc _ _ _))⟩)) | (go_at_call 95; (with_reducible refine (cachepotref1_follows.calls a0 (wrap64 (a1 + 2)) 128 191 t220 _ A26.out).mono ?_); rintro e w' ⟨rfl, ⟨nd, rfl⟩⟩; (try first | exact ⟨rfl, _, World.drewN_drewN _ _ _⟩ | exact ⟨rfl, _, Eq.trans (World.drewN_drewN _ _ _) (congrArg (World.drewN _) (Nat.add_assoc _ _ _))⟩))); try go_wp2_with (first | (go_at_call 95; (with_reducible refine (cachepotref1_follows.calls a0 (wrap64 (a1 + 1)) x7_15 x8_15 true _ A24.out).mono ?_); rintro e w' ⟨rfl, ⟨nd, rfl⟩⟩; (try first | exact ⟨rfl, _, World.drewN_drewN _ _ _⟩ | exact ⟨rfl, _, Eq.trans (World.drewN_drewN _ _ _) (congrArg (World.drewN _) (Nat.add_assoc _ _ _))⟩)) | (go_at_call 95; (with_reducible refine (cachepotref1_follows.calls a0 (wrap64 (a1 + 2)) 128 191 t220 _ A26.out).mono ?_); rintro e w' ⟨rfl, ⟨nd, rfl⟩⟩; (try first | exact ⟨rfl, _, World.drewN_drewN _ _ _⟩ | exact ⟨rfl, _, Eq.trans (World.drewN_drewN _ _ _) (congrArg (World.drewN _) (Nat.add_assoc _ _ _))⟩))))
                      go_meet
                      case rel => exact ⟨_, (t220), (by first | rfl | (simp; done) | (simp [*]; done)), H', ⟨by have := HJ5.out; have := HJ15.out; first | omega | exact Nat.le_refl _⟩, by repeat (first | exact Drawn0.refl _ | apply Drawn0.step)⟩
                    · replace c25 := Bool.eq_false_iff.mpr c25
                      subst c25
                      have H1 : (cachepotref1_Rune.j2 kj15 a0 a1 (bt a0 a1) x7_15 x8_15 false) = some (r1, r2) := by rw [if_neg (show ¬ (false = true) by decide)] at H; exact H
                      clear H
                      have H := H1
                      clear H1
                      have H' := Aside0.mk H
                      clear H
                      go_wp2_with (first | (go_at_call 95; (with_reducible refine (cachepotref1_follows.calls a0 (wrap64 (a1 + 1)) x7_15 x8_15 false _ A24.out).mono ?_); rintro e w' ⟨rfl, ⟨nd, rfl⟩⟩; (try first | exact ⟨rfl, _, World.drewN_drewN _ _ _⟩ | exact ⟨rfl, _, Eq.trans (World.drewN_drewN _ _ _) (congrArg (World.drewN _) (Nat.add_assoc _ _ _))⟩)))
                      repeat (go_quiet (first | (go_at_call 95; (with_reducible refine (cachepotref1_follows.calls a0 (wrap64 (a1 + 1)) x7_15 x8_15 false _ A24.out).mono ?_); rintro e w' ⟨rfl, ⟨nd, rfl⟩⟩; (try first | exact ⟨rfl, _, World.drewN_drewN _ _ _⟩ | exact ⟨rfl, _, Eq.trans (World.drewN_drewN _ _ _) (congrArg (World.drewN _) (Nat.add_assoc _ _ _))⟩))); try go_wp2_with (first | (go_at_call 95; (with_reducible refine (cachepotref1_follows.calls a0 (wrap64 (a1 + 1)) x7_15 x8_15 false _ A24.out).mono ?_); rintro e w' ⟨rfl, ⟨nd, rfl⟩⟩; (try first | exact ⟨rfl, _, World.drewN_drewN _ _ _⟩ | exact ⟨rfl, _, Eq.trans (World.drewN_drewN _ _ _) (congrArg (World.drewN _) (Nat.add_assoc _ _ _))⟩))))
                      go_meet
                      case rel => exact ⟨_, (false), (by first | rfl | (simp; done) | (simp [*]; done)), H', ⟨by have := HJ5.out; have := HJ15.out; first | omega | exact Nat.le_refl _⟩, by repeat (first | exact Drawn0.refl _ | apply Drawn0.step)⟩
                  · rw [if_neg c23] at H
                    have c23b0 : decide ((bt a0 a1) ≤ 239) = false := decide_eq_false c23
                    clear c23
                    have H' := Aside0.mk H
                    clear H
                    go_wp2
                    repeat (go_quiet (fail); try go_wp2)
                    go_meet
                    case rel => exact ⟨_, (false), (by first | rfl | (simp; done) | (simp [*]; done)), H', ⟨by have := HJ5.out; have := HJ15.out; first | omega | exact Nat.le_refl _⟩, by repeat (first | exact Drawn0.refl _ | apply Drawn0.step)⟩
                · rw [if_neg c22] at H
                  have c22b0 : decide (224 ≤ (bt a0 a1)) = false := decide_eq_false c22
                  clear c22
                  (first | rw [c22b0] | (simp only [i64_w, i32_w]; rw [c22b0]) | skip)
                  have H' := Aside0.mk H
                  clear H
                  go_wp2
                  repeat (go_quiet (fail); try go_wp2)
                  go_meet
                  case rel => exact ⟨_, (false), (by first | rfl | (simp; done) | (simp [*]; done)), H', ⟨by have := HJ5.out; have := HJ15.out; first | omega | exact Nat.le_refl _⟩, by repeat (first | exact Drawn0.refl _ | apply Drawn0.step)⟩
              case rest =>
                clear HC21
                try clear c1
                try clear p1
                try clear q1
                try clear hx1
                try clear c2
                try clear p2
                try clear c3
                try clear c3b0
                try clear c4
                try clear c4b0
                try clear c5
                try clear p5
                try clear q5
                try clear hx5
                try clear c6
                try clear p6
                try clear c7
                try clear c7b0
                try clear c8
                try clear c8b0
                try clear c9
                try clear c9b0
                try clear c11
                try clear c13
                try clear c13b0
                try clear c14
                try clear c14b0
                try clear c15
                try clear p15
                try clear q15
                try clear hx15
                try clear c17
                try clear c17b0
                try clear c17b1
                try clear c18
                try clear c18b0
                try clear c18b1
                try clear c19
                try clear c19b0
                try clear c19b1
                try clear c20
                try clear c20b0
                try clear c20b1
                try clear c22
                try clear c22b0
                try clear c23
                try clear c23b0
                try clear c25
                try clear p1
                try clear p15
                try clear p2
                try clear p5
                try clear p6
                try clear q1
                try clear q15
                try clear q5
                obtain ⟨kq, x69_20, rfl, HA, HJ20, ⟨mc20, rfl⟩⟩ := hcut
                cases kq with
                | zero => exact absurd HA.out (by simp [cachepotref1_Rune.j2])
                | succ kj20 =>
                  have H := HA.out
                  clear HA
                  simp only [cachepotref1_Rune.j2] at H
                  by_cases c27 : x69_20 = true
                  · subst c27
                    have H1 : (if 0 ≤ (wrap64 (a1 + 1)) then (if (wrap64 (a1 + 1)) < (a0.size : Int) then (if 0 ≤ (wrap64 (a1 + 2)) then (if (wrap64 (a1 + 2)) < (a0.size : Int) then (some (wrap64 ((wrap64 ((wrap64 ((wrap64 (Go.bits .and .u8 (bt a0 a1) 15)) * 4096)) + (wrap64 ((wrap64 (Go.bits .and .u8 (bt a0 (wrap64 (a1 + 1))) 63)) * 64)))) + (wrap64 (Go.bits .and .u8 (bt a0 (wrap64 (a1 + 2))) 63))), 3)) else (none)) else (none)) else (none)) else (none)) = some (r1, r2) := by rw [if_pos rfl] at H; exact H
                    clear H
                    have H := H1
                    clear H1
                    obtain ⟨ji28, hji28⟩ : ∃ j_ : Int, (wrap64 (a1 + 1)) = j_ := ⟨_, rfl⟩
                    replace H : (if 0 ≤ (ji28) then (if (ji28) < (a0.size : Int) then (if 0 ≤ (wrap64 (a1 + 2)) then (if (wrap64 (a1 + 2)) < (a0.size : Int) then (some (wrap64 ((wrap64 ((wrap64 ((wrap64 (Go.bits .and .u8 (bt a0 a1) 15)) * 4096)) + (wrap64 ((wrap64 (Go.bits .and .u8 (bt a0 (ji28)) 63)) * 64)))) + (wrap64 (Go.bits .and .u8 (bt a0 (wrap64 (a1 + 2))) 63))), 3)) else (none)) else (none)) else (none)) else (none)) = some (r1, r2) := by first | (rw [hji28] at H; exact H) | (simp only [hji28] at H ⊢; exact H)
                    have hji28w : (IntKind.i64.wrap (a1 + 1)) = ji28 := (i64_w _).trans hji28
                    by_cases c29 : 0 ≤ (ji28)
                    · rw [if_pos c29] at H
                      have c29b0 : decide (0 ≤ (ji28)) = true := decide_eq_true c29
                      clear c29
                      by_cases c30 : (ji28) < (a0.size : Int)
                      · rw [if_pos c30] at H
                        have c30b0 : decide ((ji28) < (a0.size : Int)) = true := decide_eq_true c30
                        clear c30
                        obtain ⟨ji32, hji32⟩ : ∃ j_ : Int, (wrap64 (a1 + 2)) = j_ := ⟨_, rfl⟩
                        replace H : (if 0 ≤ (ji32) then (if (ji32) < (a0.size : Int) then (some (wrap64 ((wrap64 ((wrap64 ((wrap64 (Go.bits .and .u8 (bt a0 a1) 15)) * 4096)) + (wrap64 ((wrap64 (Go.bits .and .u8 (bt a0 (ji28)) 63)) * 64)))) + (wrap64 (Go.bits .and .u8 (bt a0 (ji32)) 63))), 3)) else (none)) else (none)) = some (r1, r2) := by first | (rw [hji32] at H; exact H) | (simp only [hji32] at H ⊢; exact H)
                        have hji32w : (IntKind.i64.wrap (a1 + 2)) = ji32 := (i64_w _).trans hji32
                        by_cases c33 : 0 ≤ (ji32)
                        · rw [if_pos c33] at H
                          have c33b0 : decide (0 ≤ (ji32)) = true := decide_eq_true c33
                          clear c33
                          by_cases c34 : (ji32) < (a0.size : Int)
                          · rw [if_pos c34] at H
                            have c34b0 : decide ((ji32) < (a0.size : Int)) = true := decide_eq_true c34
                            clear c34
                            simp only [Option.some.injEq, Prod.mk.injEq] at H
                            obtain ⟨rfl, rfl⟩ := H
                            have p31 : 0 ≤ ((ji28) : Int) := of_decide_eq_true (by first | (with_reducible assumption) | assumption)
                            have q31 : (ji28) < (a0.size : Int) := of_decide_eq_true (by first | (with_reducible assumption) | assumption)
                            have hx31 := bt_at a0 (ji28)
                            replace p31 := eq_true p31
                            replace q31 := eq_true q31
                            have p35 : 0 ≤ ((ji32) : Int) := of_decide_eq_true (by first | (with_reducible assumption) | assumption)
                            have q35 : (ji32) < (a0.size : Int) := of_decide_eq_true (by first | (with_reducible assumption) | assumption)
                            have hx35 := bt_at a0 (ji32)
                            replace p35 := eq_true p35
                            replace q35 := eq_true q35
                            go_wp2
                            repeat (go_quiet (fail); try go_wp2)
                            go_ret2
                            exact ⟨by first | rfl | (simp; done) | (simp only [← hji28, ← hji32] <;> (first | rfl | simp)) | (simp [*]; done), by repeat (first | exact Drawn0.refl _ | apply Drawn0.step)⟩
                          · rw [if_neg c34] at H
                            exact absurd H (by simp)
                        · rw [if_neg c33] at H
                          exact absurd H (by simp)
                      · rw [if_neg c30] at H
                        exact absurd H (by simp)
                    · rw [if_neg c29] at H
                      exact absurd H (by simp)
                  · replace c27 := Bool.eq_false_iff.mpr c27
                    subst c27
                    have H1 : (if (bt a0 a1) ≥ 240 then (if (bt a0 a1) ≤ 244 then ((cachepotref1_follows.f a0 (wrap64 (a1 + 1)) x7_15 x8_15).bind fun t221 => (if t221 = true then ((cachepotref1_follows.f a0 (wrap64 (a1 + 2)) 128 191).bind fun t222 => (if t222 = true then ((cachepotref1_follows.f a0 (wrap64 (a1 + 3)) 128 191).bind fun t223 => (if t223 = true then (if 0 ≤ (wrap64 (a1 + 1)) then (if (wrap64 (a1 + 1)) < (a0.size : Int) then (if 0 ≤ (wrap64 (a1 + 2)) then (if (wrap64 (a1 + 2)) < (a0.size : Int) then (if 0 ≤ (wrap64 (a1 + 3)) then (if (wrap64 (a1 + 3)) < (a0.size : Int) then (some (wrap64 ((wrap64 ((wrap64 ((wrap64 ((wrap64 (Go.bits .and .u8 (bt a0 a1) 7)) * 262144)) + (wrap64 ((wrap64 (Go.bits .and .u8 (bt a0 (wrap64 (a1 + 1))) 63)) * 4096)))) + (wrap64 ((wrap64 (Go.bits .and .u8 (bt a0 (wrap64 (a1 + 2))) 63)) * 64)))) + (wrap64 (Go.bits .and .u8 (bt a0 (wrap64 (a1 + 3))) 63))), 4)) else (none)) else (none)) else (none)) else (none)) else (none)) else (none)) else (some (65533, 1)))) else (some (65533, 1)))) else (some (65533, 1)))) else (some (65533, 1))) else (some (65533, 1))) = some (r1, r2) := by rw [if_neg (show ¬ (false = true) by decide)] at H; exact H
                    clear H
                    have H := H1
                    clear H1
                    by_cases c36 : (bt a0 a1) ≥ 240
                    · rw [if_pos c36] at H
                      have c36b0 : decide (240 ≤ (bt a0 a1)) = true := decide_eq_true c36
                      clear c36
                      by_cases c37 : (bt a0 a1) ≤ 244
                      · rw [if_pos c37] at H
                        have c37b0 : decide ((bt a0 a1) ≤ 244) = true := decide_eq_true c37
                        clear c37
                        replace H := Option.bind_eq_some_iff.mp H
                        obtain ⟨t221, A380, H⟩ := H
                        replace H : (if t221 = true then ((cachepotref1_follows.f a0 (wrap64 (a1 + 2)) 128 191).bind fun t222 => (if t222 = true then ((cachepotref1_follows.f a0 (wrap64 (a1 + 3)) 128 191).bind fun t223 => (if t223 = true then (if 0 ≤ (wrap64 (a1 + 1)) then (if (wrap64 (a1 + 1)) < (a0.size : Int) then (if 0 ≤ (wrap64 (a1 + 2)) then (if (wrap64 (a1 + 2)) < (a0.size : Int) then (if 0 ≤ (wrap64 (a1 + 3)) then (if (wrap64 (a1 + 3)) < (a0.size : Int) then (some (wrap64 ((wrap64 ((wrap64 ((wrap64 ((wrap64 (Go.bits .and .u8 (bt a0 a1) 7)) * 262144)) + (wrap64 ((wrap64 (Go.bits .and .u8 (bt a0 (wrap64 (a1 + 1))) 63)) * 4096)))) + (wrap64 ((wrap64 (Go.bits .and .u8 (bt a0 (wrap64 (a1 + 2))) 63)) * 64)))) + (wrap64 (Go.bits .and .u8 (bt a0 (wrap64 (a1 + 3))) 63))), 4)) else (none)) else (none)) else (none)) else (none)) else (none)) else (none)) else (some (65533, 1)))) else (some (65533, 1)))) else (some (65533, 1))) = some (r1, r2) := H
                        have A38 := Aside0.mk A380
                        clear A380
                        by_cases c39 : t221 = true
                        · subst c39
                          have H1 : ((cachepotref1_follows.f a0 (wrap64 (a1 + 2)) 128 191).bind fun t222 => (if t222 = true then ((cachepotref1_follows.f a0 (wrap64 (a1 + 3)) 128 191).bind fun t223 => (if t223 = true then (if 0 ≤ (wrap64 (a1 + 1)) then (if (wrap64 (a1 + 1)) < (a0.size : Int) then (if 0 ≤ (wrap64 (a1 + 2)) then (if (wrap64 (a1 + 2)) < (a0.size : Int) then (if 0 ≤ (wrap64 (a1 + 3)) then (if (wrap64 (a1 + 3)) < (a0.size : Int) then (some (wrap64 ((wrap64 ((wrap64 ((wrap64 ((wrap64 (Go.bits .and .u8 (bt a0 a1) 7)) * 262144)) + (wrap64 ((wrap64 (Go.bits .and .u8 (bt a0 (wrap64 (a1 + 1))) 63)) * 4096)))) + (wrap64 ((wrap64 (Go.bits .and .u8 (bt a0 (wrap64 (a1 + 2))) 63)) * 64)))) + (wrap64 (Go.bits .and .u8 (bt a0 (wrap64 (a1 + 3))) 63))), 4)) else (none)) else (none)) else (none)) else (none)) else (none)) else (none)) else (some (65533, 1)))) else (some (65533, 1)))) = some (r1, r2) := by rw [if_pos rfl] at H; exact H
                          clear H
                          have H := H1
                          clear H1
                          replace H := Option.bind_eq_some_iff.mp H
                          obtain ⟨t222, A400, H⟩ := H
                          replace H : (if t222 = true then ((cachepotref1_follows.f a0 (wrap64 (a1 + 3)) 128 191).bind fun t223 => (if t223 = true then (if 0 ≤ (wrap64 (a1 + 1)) then (if (wrap64 (a1 + 1)) < (a0.size : Int) then (if 0 ≤ (wrap64 (a1 + 2)) then (if (wrap64 (a1 + 2)) < (a0.size : Int) then (if 0 ≤ (wrap64 (a1 + 3)) then (if (wrap64 (a1 + 3)) < (a0.size : Int) then (some (wrap64 ((wrap64 ((wrap64 ((wrap64 ((wrap64 (Go.bits .and .u8 (bt a0 a1) 7)) * 262144)) + (wrap64 ((wrap64 (Go.bits .and .u8 (bt a0 (wrap64 (a1 + 1))) 63)) * 4096)))) + (wrap64 ((wrap64 (Go.bits .and .u8 (bt a0 (wrap64 (a1 + 2))) 63)) * 64)))) + (wrap64 (Go.bits .and .u8 (bt a0 (wrap64 (a1 + 3))) 63))), 4)) else (none)) else (none)) else (none)) else (none)) else (none)) else (none)) else (some (65533, 1)))) else (some (65533, 1))) = some (r1, r2) := H
                          have A40 := Aside0.mk A400
                          clear A400
                          by_cases c41 : t222 = true
                          · subst c41
                            have H1 : ((cachepotref1_follows.f a0 (wrap64 (a1 + 3)) 128 191).bind fun t223 => (if t223 = true then (if 0 ≤ (wrap64 (a1 + 1)) then (if (wrap64 (a1 + 1)) < (a0.size : Int) then (if 0 ≤ (wrap64 (a1 + 2)) then (if (wrap64 (a1 + 2)) < (a0.size : Int) then (if 0 ≤ (wrap64 (a1 + 3)) then (if (wrap64 (a1 + 3)) < (a0.size : Int) then (some (wrap64 ((wrap64 ((wrap64 ((wrap64 ((wrap64 (Go.bits .and .u8 (bt a0 a1) 7)) * 262144)) + (wrap64 ((wrap64 (Go.bits .and .u8 (bt a0 (wrap64 (a1 + 1))) 63)) * 4096)))) + (wrap64 ((wrap64 (Go.bits .and .u8 (bt a0 (wrap64 (a1 + 2))) 63)) * 64)))) + (wrap64 (Go.bits .and .u8 (bt a0 (wrap64 (a1 + 3))) 63))), 4)) else (none)) else (none)) else (none)) else (none)) else (none)) else (none)) else (some (65533, 1)))) = some (r1, r2) := by rw [if_pos rfl] at H; exact H
                            clear H
                            have H := H1
                            clear H1
                            replace H := Option.bind_eq_some_iff.mp H
                            obtain ⟨t223, A420, H⟩ := H
                            replace H : (if t223 = true then (if 0 ≤ (wrap64 (a1 + 1)) then (if (wrap64 (a1 + 1)) < (a0.size : Int) then (if 0 ≤ (wrap64 (a1 + 2)) then (if (wrap64 (a1 + 2)) < (a0.size : Int) then (if 0 ≤ (wrap64 (a1 + 3)) then (if (wrap64 (a1 + 3)) < (a0.size : Int) then (some (wrap64 ((wrap64 ((wrap64 ((wrap64 ((wrap64 (Go.bits .and .u8 (bt a0 a1) 7)) * 262144)) + (wrap64 ((wrap64 (Go.bits .and .u8 (bt a0 (wrap64 (a1 + 1))) 63)) * 4096)))) + (wrap64 ((wrap64 (Go.bits .and .u8 (bt a0 (wrap64 (a1 + 2))) 63)) * 64)))) + (wrap64 (Go.bits .and .u8 (bt a0 (wrap64 (a1 + 3))) 63))), 4)) else (none)) else (none)) else (none)) else (none)) else (none)) else (none)) else (some (65533, 1))) = some (r1, r2) := H
                            have A42 := Aside0.mk A420
                            clear A420
                            by_cases c43 : t223 = true
                            · subst c43
                              have H1 : (if 0 ≤ (wrap64 (a1 + 1)) then (if (wrap64 (a1 + 1)) < (a0.size : Int) then (if 0 ≤ (wrap64 (a1 + 2)) then (if (wrap64 (a1 + 2)) < (a0.size : Int) then (if 0 ≤ (wrap64 (a1 + 3)) then (if (wrap64 (a1 + 3)) < (a0.size : Int) then (some (wrap64 ((wrap64 ((wrap64 ((wrap64 ((wrap64 (Go.bits .and .u8 (bt a0 a1) 7)) * 262144)) + (wrap64 ((wrap64 (Go.bits .and .u8 (bt a0 (wrap64 (a1 + 1))) 63)) * 4096)))) + (wrap64 ((wrap64 (Go.bits .and .u8 (bt a0 (wrap64 (a1 + 2))) 63)) * 64)))) + (wrap64 (Go.bits .and .u8 (bt a0 (wrap64 (a1 + 3))) 63))), 4)) else (none)) else (none)) else (none)) else (none)) else (none)) else (none)) = some (r1, r2) := by rw [if_pos rfl] at H; exact H
                              clear H
                              have H := H1
                              clear H1
                              obtain ⟨ji44, hji44⟩ : ∃ j_ : Int, (wrap64 (a1 + 1)) = j_ := ⟨_, rfl⟩
                              replace H : (if 0 ≤ (ji44) then (if (ji44) < (a0.size : Int) then (if 0 ≤ (wrap64 (a1 + 2)) then (if (wrap64 (a1 + 2)) < (a0.size : Int) then (if 0 ≤ (wrap64 (a1 + 3)) then (if (wrap64 (a1 + 3)) < (a0.size : Int) then (some (wrap64 ((wrap64 ((wrap64 ((wrap64 ((wrap64 (Go.bits .and .u8 (bt a0 a1) 7)) * 262144)) + (wrap64 ((wrap64 (Go.bits .and .u8 (bt a0 (ji44)) 63)) * 4096)))) + (wrap64 ((wrap64 (Go.bits .and .u8 (bt a0 (wrap64 (a1 + 2))) 63)) * 64)))) + (wrap64 (Go.bits .and .u8 (bt a0 (wrap64 (a1 + 3))) 63))), 4)) else (none)) else (none)) else (none)) else (none)) else (none)) else (none)) = some (r1, r2) := by first | (rw [hji44] at H; exact H) | (simp only [hji44] at H ⊢; exact H)
                              (try rw [hji44] at A38)
                              (try rw [hji44] at A40)
                              (try rw [hji44] at A42)
                              have hji44w : (IntKind.i64.wrap (a1 + 1)) = ji44 := (i64_w _).trans hji44
                              by_cases c45 : 0 ≤ (ji44)
                              · rw [if_pos c45] at H
                                have c45b0 : decide (0 ≤ (ji44)) = true := decide_eq_true c45
                                clear c45
                                by_cases c46 : (ji44) < (a0.size : Int)
                                · rw [if_pos c46] at H
                                  have c46b0 : decide ((ji44) < (a0.size : Int)) = true := decide_eq_true c46
                                  clear c46
                                  obtain ⟨ji48, hji48⟩ : ∃ j_ : Int, (wrap64 (a1 + 2)) = j_ := ⟨_, rfl⟩
                                  replace H : (if 0 ≤ (ji48) then (if (ji48) < (a0.size : Int) then (if 0 ≤ (wrap64 (a1 + 3)) then (if (wrap64 (a1 + 3)) < (a0.size : Int) then (some (wrap64 ((wrap64 ((wrap64 ((wrap64 ((wrap64 (Go.bits .and .u8 (bt a0 a1) 7)) * 262144)) + (wrap64 ((wrap64 (Go.bits .and .u8 (bt a0 (ji44)) 63)) * 4096)))) + (wrap64 ((wrap64 (Go.bits .and .u8 (bt a0 (ji48)) 63)) * 64)))) + (wrap64 (Go.bits .and .u8 (bt a0 (wrap64 (a1 + 3))) 63))), 4)) else (none)) else (none)) else (none)) else (none)) = some (r1, r2) := by first | (rw [hji48] at H; exact H) | (simp only [hji48] at H ⊢; exact H)
                                  (try rw [hji48] at A38)
                                  (try rw [hji48] at A40)
                                  (try rw [hji48] at A42)
                                  have hji48w : (IntKind.i64.wrap (a1 + 2)) = ji48 := (i64_w _).trans hji48
                                  by_cases c49 : 0 ≤ (ji48)
                                  · rw [if_pos c49] at H
                                    have c49b0 : decide (0 ≤ (ji48)) = true := decide_eq_true c49
                                    clear c49
                                    by_cases c50 : (ji48) < (a0.size : Int)
                                    · rw [if_pos c50] at H
                                      have c50b0 : decide ((ji48) < (a0.size : Int)) = true := decide_eq_true c50
                                      clear c50
                                      obtain ⟨ji52, hji52⟩ : ∃ j_ : Int, (wrap64 (a1 + 3)) = j_ := ⟨_, rfl⟩
                                      replace H : (if 0 ≤ (ji52) then (if (ji52) < (a0.size : Int) then (some (wrap64 ((wrap64 ((wrap64 ((wrap64 ((wrap64 (Go.bits .and .u8 (bt a0 a1) 7)) * 262144)) + (wrap64 ((wrap64 (Go.bits .and .u8 (bt a0 (ji44)) 63)) * 4096)))) + (wrap64 ((wrap64 (Go.bits .and .u8 (bt a0 (ji48)) 63)) * 64)))) + (wrap64 (Go.bits .and .u8 (bt a0 (ji52)) 63))), 4)) else (none)) else (none)) = some (r1, r2) := by first | (rw [hji52] at H; exact H) | (simp only [hji52] at H ⊢; exact H)
                                      (try rw [hji52] at A38)
                                      (try rw [hji52] at A40)
                                      (try rw [hji52] at A42)
                                      have hji52w : (IntKind.i64.wrap (a1 + 3)) = ji52 := (i64_w _).trans hji52
                                      by_cases c53 : 0 ≤ (ji52)
                                      · rw [if_pos c53] at H
                                        have c53b0 : decide (0 ≤ (ji52)) = true := decide_eq_true c53
                                        clear c53
                                        by_cases c54 : (ji52) < (a0.size : Int)
                                        · rw [if_pos c54] at H
                                          have c54b0 : decide ((ji52) < (a0.size : Int)) = true := decide_eq_true c54
                                          clear c54
                                          simp only [Option.some.injEq, Prod.mk.injEq] at H
                                          obtain ⟨rfl, rfl⟩ := H
                                          go_wp2_with (first | (go_at_call 95; (with_reducible refine (cachepotref1_follows.calls a0 ji44 x7_15 x8_15 true _ A38.out).mono ?_); rintro e w' ⟨rfl, ⟨nd, rfl⟩⟩; (try first | exact ⟨rfl, _, World.drewN_drewN _ _ _⟩ | exact ⟨rfl, _, Eq.trans (World.drewN_drewN _ _ _) (congrArg (World.drewN _) (Nat.add_assoc _ _ _))⟩)) | (go_at_call 95; (with_reducible refine (cachepotref1_follows.calls a0 ji48 128 191 true _ A40.out).mono ?_); rintro e w' ⟨rfl, ⟨nd, rfl⟩⟩; (try first | exact ⟨rfl, _, World.drewN_drewN _ _ _⟩ | exact ⟨rfl, _, Eq.trans (World.drewN_drewN _ _ _) (congrArg (World.drewN _) (Nat.add_assoc _ _ _))⟩)) | (go_at_call 95; (with_reducible refine (cachepotref1_follows.calls a0 ji52 128 191 true _ A42.out).mono ?_); rintro e w' ⟨rfl, ⟨nd, rfl⟩⟩; (try first | exact ⟨rfl, _, World.drewN_drewN _ _ _⟩ | exact ⟨rfl, _, Eq.trans (World.drewN_drewN _ _ _) (congrArg (World.drewN _) (Nat.add_assoc _ _ _))⟩); have p47 : 0 ≤ ((ji44) : Int) := of_decide_eq_true (by first | (with_reducible assumption) | assumption); have q47 : (ji44) < (a0.size : Int) := of_decide_eq_true (by first | (with_reducible assumption) | assumption); have hx47 := bt_at a0 (ji44); replace p47 := eq_true p47; replace q47 := eq_true q47; have p51 : 0 ≤ ((ji48) : Int) := of_decide_eq_true (by first | (with_reducible assumption) | assumption); have q51 : (ji48) < (a0.size : Int) := of_decide_eq_true (by first | (with_reducible assumption) | assumption); have hx51 := bt_at a0 (ji48); replace p51 := eq_true p51; replace q51 := eq_true q51; have p55 : 0 ≤ ((ji52) : Int) := of_decide_eq_true (by first | (with_reducible assumption) | assumption); have q55 : (ji52) < (a0.size : Int) := of_decide_eq_true (by first | (with_reducible assumption) | assumption); have hx55 := bt_at a0 (ji52); replace p55 := eq_true p55; replace q55 := eq_true q55))
                                          repeat (go_quiet (first | (go_at_call 95; (with_reducible refine (cachepotref1_follows.calls a0 ji44 x7_15 x8_15 true _ A38.out).mono ?_); rintro e w' ⟨rfl, ⟨nd, rfl⟩⟩; (try first | exact ⟨rfl, _, World.drewN_drewN _ _ _⟩ | exact ⟨rfl, _, Eq.trans (World.drewN_drewN _ _ _) (congrArg (World.drewN _) (Nat.add_assoc _ _ _))⟩)) | (go_at_call 95; (with_reducible refine (cachepotref1_follows.calls a0 ji48 128 191 true _ A40.out).mono ?_); rintro e w' ⟨rfl, ⟨nd, rfl⟩⟩; (try first | exact ⟨rfl, _, World.drewN_drewN _ _ _⟩ | exact ⟨rfl, _, Eq.trans (World.drewN_drewN _ _ _) (congrArg (World.drewN _) (Nat.add_assoc _ _ _))⟩)) | (go_at_call 95; (with_reducible refine (cachepotref1_follows.calls a0 ji52 128 191 true _ A42.out).mono ?_); rintro e w' ⟨rfl, ⟨nd, rfl⟩⟩; (try first | exact ⟨rfl, _, World.drewN_drewN _ _ _⟩ | exact ⟨rfl, _, Eq.trans (World.drewN_drewN _ _ _) (congrArg (World.drewN _) (Nat.add_assoc _ _ _))⟩); have p47 : 0 ≤ ((ji44) : Int) := of_decide_eq_true (by first | (with_reducible assumption) | assumption); have q47 : (ji44) < (a0.size : Int) := of_decide_eq_true (by first | (with_reducible assumption) | assumption); have hx47 := bt_at a0 (ji44); replace p47 := eq_true p47; replace q47 := eq_true q47; have p51 : 0 ≤ ((ji48) : Int) := of_decide_eq_true (by first | (with_reducible assumption) | assumption); have q51 : (ji48) < (a0.size : Int) := of_decide_eq_true (by first | (with_reducible assumption) | assumption); have hx51 := bt_at a0 (ji48); replace p51 := eq_true p51; replace q51 := eq_true q51; have p55 : 0 ≤ ((ji52) : Int) := of_decide_eq_true (by first | (with_reducible assumption) | assumption); have q55 : (ji52) < (a0.size : Int) := of_decide_eq_true (by first | (with_reducible assumption) | assumption); have hx55 := bt_at a0 (ji52); replace p55 := eq_true p55; replace q55 := eq_true q55)); try go_wp2_with (first | (go_at_call 95; (with_reducible refine (cachepotref1_follows.calls a0 ji44 x7_15 x8_15 true _ A38.out).mono ?_); rintro e w' ⟨rfl, ⟨nd, rfl⟩⟩; (try first | exact ⟨rfl, _, World.drewN_drewN _ _ _⟩ | exact ⟨rfl, _, Eq.trans (World.drewN_drewN _ _ _) (congrArg (World.drewN _) (Nat.add_assoc _ _ _))⟩)) | (go_at_call 95; (with_reducible refine (cachepotref1_follows.calls a0 ji48 128 191 true _ A40.out).mono ?_); rintro e w' ⟨rfl, ⟨nd, rfl⟩⟩; (try first | exact ⟨rfl, _, World.drewN_drewN _ _ _⟩ | exact ⟨rfl, _, Eq.trans (World.drewN_drewN _ _ _) (congrArg (World.drewN _) (Nat.add_assoc _ _ _))⟩)) | (go_at_call 95; (with_reducible refine (cachepotref1_follows.calls a0 ji52 128 191 true _ A42.out).mono ?_); rintro e w' ⟨rfl, ⟨nd, rfl⟩⟩; (try first | exact ⟨rfl, _, World.drewN_drewN _ _ _⟩ | exact ⟨rfl, _, Eq.trans (World.drewN_drewN _ _ _) (congrArg (World.drewN _) (Nat.add_assoc _ _ _))⟩); have p47 : 0 ≤ ((ji44) : Int) := of_decide_eq_true (by first | (with_reducible assumption) | assumption); have q47 : (ji44) < (a0.size : Int) := of_decide_eq_true (by first | (with_reducible assumption) | assumption); have hx47 := bt_at a0 (ji44); replace p47 := eq_true p47; replace q47 := eq_true q47; have p51 : 0 ≤ ((ji48) : Int) := of_decide_eq_true (by first | (with_reducible assumption) | assumption); have q51 : (ji48) < (a0.size : Int) := of_decide_eq_true (by first | (with_reducible assumption) | assumption); have hx51 := bt_at a0 (ji48); replace p51 := eq_true p51; replace q51 := eq_true q51; have p55 : 0 ≤ ((ji52) : Int) := of_decide_eq_true (by first | (with_reducible assumption) | assumption); have q55 : (ji52) < (a0.size : Int) := of_decide_eq_true (by first | (with_reducible assumption) | assumption); have hx55 := bt_at a0 (ji52); replace p55 := eq_true p55; replace q55 := eq_true q55)))
                                          go_ret2
                                          exact ⟨by first | rfl | (simp; done) | (simp only [← hji44, ← hji48, ← hji52] <;> (first | rfl | simp)) | (simp [*]; done), by repeat (first | exact Drawn0.refl _ | apply Drawn0.step)⟩
                                        · rw [if_neg c54] at H
                                          exact absurd H (by simp)
                                      · rw [if_neg c53] at H
                                        exact absurd H (by simp)
                                    · rw [if_neg c50] at H
                                      exact absurd H (by simp)
                                  · rw [if_neg c49] at H
                                    exact absurd H (by simp)
                                · rw [if_neg c46] at H
                                  exact absurd H (by simp)
                              · rw [if_neg c45] at H
                                exact absurd H (by simp)
                            · replace c43 := Bool.eq_false_iff.mpr c43
                              subst c43
                              have H1 : (some (65533, 1)) = some (r1, r2) := by rw [if_neg (show ¬ (false = true) by decide)] at H; exact H
                              clear H
                              have H := H1
                              clear H1
                              simp only [Option.some.injEq, Prod.mk.injEq] at H
                              obtain ⟨rfl, rfl⟩ := H
                              go_wp2_with (first | (go_at_call 95; (with_reducible refine (cachepotref1_follows.calls a0 (wrap64 (a1 + 1)) x7_15 x8_15 true _ A38.out).mono ?_); rintro e w' ⟨rfl, ⟨nd, rfl⟩⟩; (try first | exact ⟨rfl, _, World.drewN_drewN _ _ _⟩ | exact ⟨rfl, _, Eq.trans (World.drewN_drewN _ _ _) (congrArg (World.drewN _) (Nat.add_assoc _ _ _))⟩)) | (go_at_call 95; (with_reducible refine (cachepotref1_follows.calls a0 (wrap64 (a1 + 2)) 128 191 true _ A40.out).mono ?_); rintro e w' ⟨rfl, ⟨nd, rfl⟩⟩; (try first | exact ⟨rfl, _, World.drewN_drewN _ _ _⟩ | exact ⟨rfl, _, Eq.trans (World.drewN_drewN _ _ _) (congrArg (World.drewN _) (Nat.add_assoc _ _ _))⟩)) | (go_at_call 95; (with_reducible refine (cachepotref1_follows.calls a0 (wrap64 (a1 + 3)) 128 191 false _ A42.out).mono ?_); rintro e w' ⟨rfl, ⟨nd, rfl⟩⟩; (try first | exact ⟨rfl, _, World.drewN_drewN _ _ _⟩ | exact ⟨rfl, _, Eq.trans (World.drewN_drewN _ _ _) (congrArg (World.drewN _) (Nat.add_assoc _ _ _))⟩)))
                              repeat (go_quiet (first | (go_at_call 95; (with_reducible refine (cachepotref1_follows.calls a0 (wrap64 (a1 + 1)) x7_15 x8_15 true _ A38.out).mono ?_); rintro e w' ⟨rfl, ⟨nd, rfl⟩⟩; (try first | exact ⟨rfl, _, World.drewN_drewN _ _ _⟩ | exact ⟨rfl, _, Eq.trans (World.drewN_drewN _ _ _) (congrArg (World.drewN _) (Nat.add_assoc _ _ _))⟩)) | (go_at_call 95; (with_reducible refine (cachepotref1_follows.calls a0 (wrap64 (a1 + 2)) 128 191 true _ A40.out).mono ?_); rintro e w' ⟨rfl, ⟨nd, rfl⟩⟩; (try first | exact ⟨rfl, _, World.drewN_drewN _ _ _⟩ | exact ⟨rfl, _, Eq.trans (World.drewN_drewN _ _ _) (congrArg (World.drewN _) (Nat.add_assoc _ _ _))⟩)) | (go_at_call 95; (with_reducible refine (cachepotref1_follows.calls a0 (wrap64 (a1 + 3)) 128 191 false _ A42.out).mono ?_); rintro e w' ⟨rfl, ⟨nd, rfl⟩⟩; (try first | exact ⟨rfl, _, World.drewN_drewN _ _ _⟩ | exact ⟨rfl, _, Eq.trans (World.drewN_drewN _ _ _) (congrArg (World.drewN _) (Nat.add_assoc _ _ _))⟩))); try go_wp2_with (first | (go_at_call 95; (with_reducible refine (cachepotref1_follows.calls a0 (wrap64 (a1 + 1)) x7_15 x8_15 true _ A38.out).mono ?_); rintro e w' ⟨rfl, ⟨nd, rfl⟩⟩; (try first | exact ⟨rfl, _, World.drewN_drewN _ _ _⟩ | exact ⟨rfl, _, Eq.trans (World.drewN_drewN _ _ _) (congrArg (World.drewN _) (Nat.add_assoc _ _ _))⟩)) | (go_at_call 95; (with_reducible refine (cachepotref1_follows.calls a0 (wrap64 (a1 + 2)) 128 191 true _ A40.out).mono ?_); rintro e w' ⟨rfl, ⟨nd, rfl⟩⟩; (try first | exact ⟨rfl, _, World.drewN_drewN _ _ _⟩ | exact ⟨rfl, _, Eq.trans (World.drewN_drewN _ _ _) (congrArg (World.drewN _) (Nat.add_assoc _ _ _))⟩)) | (go_at_call 95; (with_reducible refine (cachepotref1_follows.calls a0 (wrap64 (a1 + 3)) 128 191 false _ A42.out).mono ?_); rintro e w' ⟨rfl, ⟨nd, rfl⟩⟩; (try first | exact ⟨rfl, _, World.drewN_drewN _ _ _⟩ | exact ⟨rfl, _, Eq.trans (World.drewN_drewN _ _ _) (congrArg (World.drewN _) (Nat.add_assoc _ _ _))⟩))))
                              go_ret2
                              exact ⟨by first | rfl | (simp; done) | (simp [*]; done), by repeat (first | exact Drawn0.refl _ | apply Drawn0.step)⟩
                          · replace c41 := Bool.eq_false_iff.mpr c41
                            subst c41
                            have H1 : (some (65533, 1)) = some (r1, r2) := by rw [if_neg (show ¬ (false = true) by decide)] at H; exact H
                            clear H
                            have H := H1
                            clear H1
                            simp only [Option.some.injEq, Prod.mk.injEq] at H
                            obtain ⟨rfl, rfl⟩ := H
                            go_wp2_with (first | (go_at_call 95; (with_reducible refine (cachepotref1_follows.calls a0 (wrap64 (a1 + 1)) x7_15 x8_15 true _ A38.out).mono ?_); rintro e w' ⟨rfl, ⟨nd, rfl⟩⟩; (try first | exact ⟨rfl, _, World.drewN_drewN _ _ _⟩ | exact ⟨rfl, _, Eq.trans (World.drewN_drewN _ _ _) (congrArg (World.drewN _) (Nat.add_assoc _ _ _))⟩)) | (go_at_call 95; (with_reducible refine (cachepotref1_follows.calls a0 (wrap64 (a1 + 2)) 128 191 false _ A40.out).mono ?_); rintro e w' ⟨rfl, ⟨nd, rfl⟩⟩; (try first | exact ⟨rfl, _, World.drewN_drewN _ _ _⟩ | exact ⟨rfl, _, Eq.trans (World.drewN_drewN _ _ _) (congrArg (World.drewN _) (Nat.add_assoc _ _ _))⟩)))
                            repeat (go_quiet (first | (go_at_call 95; (with_reducible refine (cachepotref1_follows.calls a0 (wrap64 (a1 + 1)) x7_15 x8_15 true _ A38.out).mono ?_); rintro e w' ⟨rfl, ⟨nd, rfl⟩⟩; (try first | exact ⟨rfl, _, World.drewN_drewN _ _ _⟩ | exact ⟨rfl, _, Eq.trans (World.drewN_drewN _ _ _) (congrArg (World.drewN _) (Nat.add_assoc _ _ _))⟩)) | (go_at_call 95; (with_reducible refine (cachepotref1_follows.calls a0 (wrap64 (a1 + 2)) 128 191 false _ A40.out).mono ?_); rintro e w' ⟨rfl, ⟨nd, rfl⟩⟩; (try first | exact ⟨rfl, _, World.drewN_drewN _ _ _⟩ | exact ⟨rfl, _, Eq.trans (World.drewN_drewN _ _ _) (congrArg (World.drewN _) (Nat.add_assoc _ _ _))⟩))); try go_wp2_with (first | (go_at_call 95; (with_reducible refine (cachepotref1_follows.calls a0 (wrap64 (a1 + 1)) x7_15 x8_15 true _ A38.out).mono ?_); rintro e w' ⟨rfl, ⟨nd, rfl⟩⟩; (try first | exact ⟨rfl, _, World.drewN_drewN _ _ _⟩ | exact ⟨rfl, _, Eq.trans (World.drewN_drewN _ _ _) (congrArg (World.drewN _) (Nat.add_assoc _ _ _))⟩)) | (go_at_call 95; (with_reducible refine (cachepotref1_follows.calls a0 (wrap64 (a1 + 2)) 128 191 false _ A40.out).mono ?_); rintro e w' ⟨rfl, ⟨nd, rfl⟩⟩; (try first | exact ⟨rfl, _, World.drewN_drewN _ _ _⟩ | exact ⟨rfl, _, Eq.trans (World.drewN_drewN _ _ _) (congrArg (World.drewN _) (Nat.add_assoc _ _ _))⟩))))
                            go_ret2
                            exact ⟨by first | rfl | (simp; done) | (simp [*]; done), by repeat (first | exact Drawn0.refl _ | apply Drawn0.step)⟩
                        · replace c39 := Bool.eq_false_iff.mpr c39
                          subst c39
                          have H1 : (some (65533, 1)) = some (r1, r2) := by rw [if_neg (show ¬ (false = true) by decide)] at H; exact H
                          clear H
                          have H := H1
                          clear H1
                          simp only [Option.some.injEq, Prod.mk.injEq] at H
                          obtain ⟨rfl, rfl⟩ := H
                          go_wp2_with (first | (go_at_call 95; (with_reducible refine (cachepotref1_follows.calls a0 (wrap64 (a1 + 1)) x7_15 x8_15 false _ A38.out).mono ?_); rintro e w' ⟨rfl, ⟨nd, rfl⟩⟩; (try first | exact ⟨rfl, _, World.drewN_drewN _ _ _⟩ | exact ⟨rfl, _, Eq.trans (World.drewN_drewN _ _ _) (congrArg (World.drewN _) (Nat.add_assoc _ _ _))⟩)))
                          repeat (go_quiet (first | (go_at_call 95; (with_reducible refine (cachepotref1_follows.calls a0 (wrap64 (a1 + 1)) x7_15 x8_15 false _ A38.out).mono ?_); rintro e w' ⟨rfl, ⟨nd, rfl⟩⟩; (try first | exact ⟨rfl, _, World.drewN_drewN _ _ _⟩ | exact ⟨rfl, _, Eq.trans (World.drewN_drewN _ _ _) (congrArg (World.drewN _) (Nat.add_assoc _ _ _))⟩))); try go_wp2_with (first | (go_at_call 95; (with_reducible refine (cachepotref1_follows.calls a0 (wrap64 (a1 + 1)) x7_15 x8_15 false _ A38.out).mono ?_); rintro e w' ⟨rfl, ⟨nd, rfl⟩⟩; (try first | exact ⟨rfl, _, World.drewN_drewN _ _ _⟩ | exact ⟨rfl, _, Eq.trans (World.drewN_drewN _ _ _) (congrArg (World.drewN _) (Nat.add_assoc _ _ _))⟩))))
                          go_ret2
                          exact ⟨by first | rfl | (simp; done) | (simp [*]; done), by repeat (first | exact Drawn0.refl _ | apply Drawn0.step)⟩
                      · rw [if_neg c37] at H
                        have c37b0 : decide ((bt a0 a1) ≤ 244) = false := decide_eq_false c37
                        clear c37
                        simp only [Option.some.injEq, Prod.mk.injEq] at H
                        obtain ⟨rfl, rfl⟩ := H
                        go_wp2
                        repeat (go_quiet (fail); try go_wp2)
                        go_ret2
                        exact ⟨by first | rfl | (simp; done) | (simp [*]; done), by repeat (first | exact Drawn0.refl _ | apply Drawn0.step)⟩
                    · rw [if_neg c36] at H
                      have c36b0 : decide (240 ≤ (bt a0 a1)) = false := decide_eq_false c36
                      clear c36
                      simp only [Option.some.injEq, Prod.mk.injEq] at H
                      obtain ⟨rfl, rfl⟩ := H
                      go_wp2
                      repeat (go_quiet (fail); try go_wp2)
                      go_ret2
                      exact ⟨by first | rfl | (simp; done) | (simp [*]; done), by repeat (first | exact Drawn0.refl _ | apply Drawn0.step)⟩
    · rw [if_neg c4] at H
      exact absurd H (by simp)
  · rw [if_neg c3] at H
    exact absurd H (by simp)
def cachepotref1_Runes.l0 : Nat → ByteArray → List Int → List Int → Int → Option (List Int × List Int)
  | 0, _, _, _, _ => none
  | k + 1, x0, x4, x5, x6 => if x6 < (x0.size : Int) then ((cachepotref1_Rune.f k x0 x6).bind fun bt224 => (if x4.length < 17592186044416 then (if x5.length < 17592186044416 then (cachepotref1_Runes.l0 k x0 (x4 ++ [bt224.1]) (x5 ++ [bt224.2]) (wrap64 (x6 + bt224.2))) else (none)) else (none))) else (some (x4, x5))
def cachepotref1_Runes.f (k : Nat) (a0 : ByteArray) : Option (List Int × List Int) := cachepotref1_Runes.l0 k a0 ([] : List Int) ([] : List Int) 0
set_option maxHeartbeats 8000000 in
set_option maxRecDepth 100000 in
theorem cachepotref1_Runes.calls (k : Nat) (a0 : ByteArray) (r1 : List Int) (r2 : List Int) (w : World) (h : cachepotref1_Runes.f k a0 = some (r1, r2)) :
    Calls Tryd.prog 131 #[.string a0] w fun e w' => ∃ v0_ v1_ : Value, e = .returned (.tuple #[v0_, v1_]) ∧ Kd.R (Kd.int .i64) 3 w' w.heap.size (fun k_ => some k_ ≠ (v1_ : Value).ownBlock) v0_ r1 ∧ Kd.R (Kd.int .i64) 3 w' w.heap.size (fun k_ => some k_ ≠ (v0_ : Value).ownBlock) v1_ r2 ∧ Below w.heap.size w w' := by
  have HB := Aside0.mk (Below.refl w.heap.size w)
  have H : (cachepotref1_Runes.l0 k a0 ([] : List Int) ([] : List Int) 0) = some (r1, r2) := h
  clear h
  have H' := Aside0.mk H
  clear H
  go_enter Tryd.func131, Tryd.ntmps131
  go_wp2
  go_loopg [4, 5, 6] k (fun kq v4 v5 v6 w' => ∃ (x4_1 : List Int) (x5_1 : List Int) (x6_1 : Int), v6 = .int .i64 x6_1 ∧ Aside0 (cachepotref1_Runes.l0 kq a0 x4_1 x5_1 x6_1 = some (r1, r2)) ∧ Aside0 (kq ≤ k) ∧ Aside0 (Kd.R (Kd.int .i64) 3 w' w.heap.size (fun k_ => some k_ ≠ (v5 : Value).ownBlock) v4 x4_1) ∧ Aside0 (Kd.R (Kd.int .i64) 3 w' w.heap.size (fun k_ => some k_ ≠ (v4 : Value).ownBlock) v5 x5_1) ∧ Aside0 (Below w.heap.size w w'))
  case atStart => exact ⟨(([] : List Int)), (([] : List Int)), (0), (by first | rfl | (simp; done) | (simp [*]; done)), H', ⟨Nat.le_refl _⟩, ⟨by first | exact Kd.R_nil _ _ _ _ _ | exact Kd.N_nil _ _ _ _ _ | exact Kd.V_nil _ _ _ _ _ | exact Kd.Q_nil _ _ _ _ _ | exact Kd.S_nil _ _ _ _ _⟩, ⟨by first | exact Kd.R_nil _ _ _ _ _ | exact Kd.N_nil _ _ _ _ _ | exact Kd.V_nil _ _ _ _ _ | exact Kd.Q_nil _ _ _ _ _ | exact Kd.S_nil _ _ _ _ _⟩, ⟨by repeat (first | (with_reducible first | exact HB.out | apply below_alloc | apply pw_below_drewN | apply below_drew1) | exact HB.out)⟩⟩
  case round =>
    clear H'
    try clear c1
    obtain ⟨x4_1, x5_1, x6_1, rfl, HA, HK1, HO_4, HO_5, HB⟩ := hrel
    cases gk with
    | zero => exact absurd HA.out (by simp [cachepotref1_Runes.l0])
    | succ k1 =>
      have H := HA.out
      clear HA
      simp only [cachepotref1_Runes.l0] at H
      by_cases c2 : x6_1 < (a0.size : Int)
      · rw [if_pos c2] at H
        have c2b0 : decide (x6_1 < (a0.size : Int)) = true := decide_eq_true c2
        clear c2
        replace H := Option.bind_eq_some_iff.mp H
        obtain ⟨⟨t224, t225⟩, A30, H⟩ := H
        replace H : (if x4_1.length < 17592186044416 then (if x5_1.length < 17592186044416 then (cachepotref1_Runes.l0 k1 a0 (x4_1 ++ [t224]) (x5_1 ++ [t225]) (wrap64 (x6_1 + t225))) else (none)) else (none)) = some (r1, r2) := H
        have A3 := Aside0.mk A30
        clear A30
        by_cases c4 : x4_1.length < 17592186044416
        · rw [if_pos c4] at H
          have LMc4 := Aside0.mk c4
          clear c4
          obtain ⟨y226, hy226⟩ : ∃ y_ : List Int, y_ = (x4_1 ++ [t224]) := ⟨_, rfl⟩
          replace H : (if x5_1.length < 17592186044416 then (cachepotref1_Runes.l0 k1 a0 y226 (x5_1 ++ [t225]) (wrap64 (x6_1 + t225))) else (none)) = some (r1, r2) := by first | (rw [hy226]; with_reducible exact H) | (have H2_ := (Option.bind_some _ _).symm.trans H; rw [hy226]; with_reducible exact H2_) | (have H2_ := (Option.bind_some _ _).symm.trans H; with_reducible exact H2_) | with_reducible exact H | (rw [hy226]; exact H) | exact H
          have Ny226 := Aside0.mk hy226
          clear hy226
          by_cases c5 : x5_1.length < 17592186044416
          · rw [if_pos c5] at H
            have LMc5 := Aside0.mk c5
            clear c5
            obtain ⟨y229, hy229⟩ : ∃ y_ : List Int, y_ = (x5_1 ++ [t225]) := ⟨_, rfl⟩
            replace H : (cachepotref1_Runes.l0 k1 a0 y226 y229 (wrap64 (x6_1 + t225))) = some (r1, r2) := by first | (rw [hy229]; with_reducible exact H) | (have H2_ := (Option.bind_some _ _).symm.trans H; rw [hy229]; with_reducible exact H2_) | (have H2_ := (Option.bind_some _ _).symm.trans H; with_reducible exact H2_) | with_reducible exact H | (rw [hy229]; exact H) | exact H
            have Ny229 := Aside0.mk hy229
            clear hy229
            have H' := Aside0.mk H
            clear H
            go_wp2_with (first | ((with_reducible refine gate_callee (f := 60) rfl ?_); refine goesL_ (some 16) rfl rfl Tryd.func60 (by kernel_rfl) rfl #[.string a0, .int .i64 x6_1] rfl (by (try simp only [List.map_toArray, List.map_cons, List.map_nil]); first | done | rfl | (simp only [List.length_drop, List.length_take]; rfl)) ?_; (with_reducible refine (cachepotref1_Rune.calls k1 a0 x6_1 t224 t225 _ A3.out).mono ?_); rintro e w' ⟨rfl, ⟨nd, rfl⟩⟩; refine ⟨_, rfl, ?_⟩) | ((with_reducible refine gate_builtin (b := .append) (xs := #[.tmp 19, .tmp 21]) rfl ?_); at_builtin; refine Kd.R_append (Kd.int .i64) (w0 := w) w.heap.size rfl (.tmp 19) (.tmp 21) 56 3 (.int .i64 0) 8 rfl Tryd.underlying56 info3 rfl (by decide) (by omega) u4 x4_1 t224 [.int .i64 t224] (fun k_ => some k_ ≠ (u5 : Value).ownBlock) (fun _ => False) rfl rfl ?aP (fun _ hk => hk.elim) ?aF ?aO ?aB ?aS ?aL ?_; (case aP => exact rfl); (case aB => exact (by repeat (first | (with_reducible first | exact HB.out | apply below_alloc | apply pw_below_drewN | apply below_drew1) | exact HB.out))); (case aF => exact (fun k_ hk => Kd.fresh' (Kd.R_lt (by (with_reducible repeat (first | apply Kd.R_alloc | apply Kd.R_drewN | apply Kd.R_drew)); exact HO_5.out)) k_ hk)); (case aO => exact (by (with_reducible repeat (first | apply Kd.R_alloc | apply Kd.R_drewN | apply Kd.R_drew)); exact HO_4.out)); (case aS => exact (below_size (by repeat (first | (with_reducible first | exact HB.out | apply below_alloc | apply pw_below_drewN | apply below_drew1) | exact HB.out)))); (case aL => have := LMc4.out; omega); intro v227 w6 ho hb hg hat; rw [← Ny226.out] at ho; have n0_ := Aside0.mk (Kd.R_after (ok := (fun _ => True)) (by (with_reducible repeat (first | apply Kd.R_alloc | apply Kd.R_drewN | apply Kd.R_drew)); exact Kd.R_mono HO_5.out (fun _ hk => ⟨trivial, hk⟩)) hg hat); have n1_ := Aside0.mk (hb); have n2_ := Aside0.mk (ho); clear HO_5; clear HB; clear HO_4; have HO_5 := n0_; have HB := n1_; have HO228 := n2_; clear n0_ n1_ n2_; clear ho hb hg hat) | ((with_reducible refine gate_builtin (b := .append) (xs := #[.tmp 23, .tmp 25]) rfl ?_); at_builtin; refine Kd.R_append (Kd.int .i64) (w0 := w) w.heap.size rfl (.tmp 23) (.tmp 25) 56 3 (.int .i64 0) 8 rfl Tryd.underlying56 info3 rfl (by decide) (by omega) u5 x5_1 t225 [.int .i64 t225] (fun k_ => some k_ ≠ (v227 : Value).ownBlock) (fun _ => False) rfl rfl ?aP (fun _ hk => hk.elim) ?aF ?aO ?aB ?aS ?aL ?_; (case aP => exact rfl); (case aB => exact (by repeat (first | (with_reducible first | exact HB.out | apply below_alloc | apply pw_below_drewN | apply below_drew1) | exact HB.out))); (case aF => exact (fun k_ hk => Kd.fresh' (Kd.R_lt (by (with_reducible repeat (first | apply Kd.R_alloc | apply Kd.R_drewN | apply Kd.R_drew)); exact HO228.out)) k_ hk)); (case aO => exact (by (with_reducible repeat (first | apply Kd.R_alloc | apply Kd.R_drewN | apply Kd.R_drew)); exact Kd.R_mono HO_5.out (fun _ hk => hk.2))); (case aS => exact (below_size (by repeat (first | (with_reducible first | exact HB.out | apply below_alloc | apply pw_below_drewN | apply below_drew1) | exact HB.out)))); (case aL => have := LMc5.out; omega); intro v230 w7 ho hb hg hat; rw [← Ny229.out] at ho; have n0_ := Aside0.mk (Kd.R_after (ok := (fun _ => True)) (by (with_reducible repeat (first | apply Kd.R_alloc | apply Kd.R_drewN | apply Kd.R_drew)); exact Kd.R_mono HO228.out (fun _ hk => ⟨trivial, hk⟩)) hg hat); have n1_ := Aside0.mk (hb); have n2_ := Aside0.mk (ho); clear HO228; clear HB; clear HO_5; have HO228 := n0_; have HB := n1_; have HO231 := n2_; clear n0_ n1_ n2_; clear ho hb hg hat))
            go_roundg k1
            case measure => have := HK1.out; omega
            case rel => exact ⟨(y226), (y229), (wrap64 (x6_1 + t225)), (by first | rfl | (simp; done) | (simp [*]; done)), H', ⟨by have := HK1.out; omega⟩, ⟨by (with_reducible repeat (first | apply Kd.R_alloc | apply Kd.R_drewN | apply Kd.R_drew)); exact Kd.R_mono HO228.out (fun _ hk => hk.2)⟩, ⟨by (with_reducible repeat (first | apply Kd.R_alloc | apply Kd.R_drewN | apply Kd.R_drew)); exact HO231.out⟩, ⟨by repeat (first | (with_reducible first | exact HB.out | apply below_alloc | apply pw_below_drewN | apply below_drew1) | exact HB.out)⟩⟩
          · rw [if_neg c5] at H
            exact absurd H (by simp)
        · rw [if_neg c4] at H
          exact absurd H (by simp)
      · rw [if_neg c2] at H
        have c2b0 : decide (x6_1 < (a0.size : Int)) = false := decide_eq_false c2
        clear c2
        simp only [Option.some.injEq, Prod.mk.injEq] at H
        obtain ⟨rfl, rfl⟩ := H
        go_wp2
        go_ret2
        exact ⟨_, _, by first | rfl | (simp [errW_none, errW_some] <;> rfl) | (simp [*, errW_none, errW_some] <;> rfl), by (with_reducible repeat (first | apply Kd.R_alloc | apply Kd.R_drewN | apply Kd.R_drew)); exact HO_4.out, by (with_reducible repeat (first | apply Kd.R_alloc | apply Kd.R_drewN | apply Kd.R_drew)); exact HO_5.out, by repeat (first | (with_reducible first | exact HB.out | apply below_alloc | apply pw_below_drewN | apply below_drew1) | exact HB.out)⟩
end Go.Proofs.YtfaelejeihmgcaaDoor.Lgx
end

section
namespace Go.Proofs.YtfaelejeihmgcaaDoor.Lgx
open Go.RowKit Go.Proofs.YtfaelejeihmgcaaDoorW.PrintWords Go.Proofs.YtfaelejeihmgcaaDoorW.PrintLast Go.Proofs.YtfaelejeihmgcaaDoorW.PrintMore
attribute [local go_sem] max2_int min2_int max_two min_two max_three min_three max_four min_four   -- for this text's walks alone
set_option linter.unusedVariables false
set_option linter.unusedSimpArgs false
attribute [local go_sem high] eqA98
def cachepotref1_KeyCommon.l0 : Nat → List Int → List Int → Int → Option (Int)
  | 0, _, _, _ => none
  | k + 1, x5, x7, x9 => if x9 < (x5.length : Int) then (if x9 < (x7.length : Int) then (if 0 ≤ x9 then (if (rd x5 x9) = (rd x7 x9) then (cachepotref1_KeyCommon.l0 k x5 x7 (wrap64 (x9 + 1))) else (some x9)) else (none)) else (some x9)) else (some x9)
def cachepotref1_KeyCommon.f (k : Nat) (a0 : ByteArray) (a1 : ByteArray) : Option (Int) := (cachepotref1_Runes.f k a0).bind fun bt232 => ((cachepotref1_Runes.f k a1).bind fun bt238 => (cachepotref1_KeyCommon.l0 k bt232.1 bt238.1 0))
set_option maxHeartbeats 8000000 in
set_option maxRecDepth 100000 in
theorem cachepotref1_KeyCommon.calls (k : Nat) (a0 : ByteArray) (a1 : ByteArray) (r : Int) (w : World) (h : cachepotref1_KeyCommon.f k a0 a1 = some r) :
    Calls Tryd.prog 132 #[.string a0, .string a1] w fun e w' => e = .returned (.int .i64 r) ∧ Below w.heap.size w w' := by
  have HB := Aside0.mk (Below.refl w.heap.size w)
  have H : ((cachepotref1_Runes.f k a0).bind fun bt232 => ((cachepotref1_Runes.f k a1).bind fun bt238 => (cachepotref1_KeyCommon.l0 k bt232.1 bt238.1 0))) = some r := h
  clear h
  replace H := Option.bind_eq_some_iff.mp H
  obtain ⟨⟨t232, t233⟩, A30, H⟩ := H
  replace H : ((cachepotref1_Runes.f k a1).bind fun bt238 => (cachepotref1_KeyCommon.l0 k t232 bt238.1 0)) = some r := H
  have A3 := Aside0.mk A30
  clear A30
  replace H := Option.bind_eq_some_iff.mp H
  obtain ⟨⟨t238, t239⟩, A40, H⟩ := H
  replace H : (cachepotref1_KeyCommon.l0 k t232 t238 0) = some r := H
  have A4 := Aside0.mk A40
  clear A40
  have H' := Aside0.mk H
  clear H
  go_enter Tryd.func132, Tryd.ntmps132
  go_wp2_with (first | (go_at_call 131; (with_reducible refine (cachepotref1_Runes.calls k a0 t232 t233 _ A3.out).mono ?_); rintro e w5 ⟨v234, v236, rfl, ho0, ho1, hb⟩; have n0_ := Aside0.mk (Kd.R_lower ho0 (below_size (by repeat (first | (with_reducible first | exact HB.out | apply below_alloc | apply pw_below_drewN | apply below_drew1) | exact HB.out)))); have n1_ := Aside0.mk (Kd.R_lower ho1 (below_size (by repeat (first | (with_reducible first | exact HB.out | apply below_alloc | apply pw_below_drewN | apply below_drew1) | exact HB.out)))); have n2_ := Aside0.mk (below_step (by repeat (first | (with_reducible first | exact HB.out | apply below_alloc | apply pw_below_drewN | apply below_drew1) | exact HB.out)) hb); clear HB; have HO235 := n0_; have HO237 := n1_; have HB := n2_; clear n0_ n1_ n2_; (try clear hb); (try clear hb2); (try clear hk); (try clear hi); (try clear ho0); (try clear ho1)) | (go_at_call 131; (with_reducible refine (cachepotref1_Runes.calls k a1 t238 t239 _ A4.out).mono ?_); rintro e w6 ⟨v240, v242, rfl, ho0, ho1, hb⟩; have n0_ := Aside0.mk (Kd.R_mono (Kd.R_told (Kd.R_told (Kd.R_old (by (with_reducible repeat (first | apply Kd.R_alloc | apply Kd.R_drewN | apply Kd.R_drew)); exact HO235.out) hb) (Kd.R_base ho0)) (Kd.R_base ho1)) (fun _ h_ => h_.1)); have n1_ := Aside0.mk (Kd.R_mono (Kd.R_told (Kd.R_told (Kd.R_old (by (with_reducible repeat (first | apply Kd.R_alloc | apply Kd.R_drewN | apply Kd.R_drew)); exact HO237.out) hb) (Kd.R_base ho0)) (Kd.R_base ho1)) (fun _ h_ => h_.1)); have n2_ := Aside0.mk (Kd.R_lower (Kd.R_new' (Kd.R_new' ho0 (Kd.R_lt (by (with_reducible repeat (first | apply Kd.R_alloc | apply Kd.R_drewN | apply Kd.R_drew)); exact HO235.out))) (Kd.R_lt (by (with_reducible repeat (first | apply Kd.R_alloc | apply Kd.R_drewN | apply Kd.R_drew)); exact HO237.out))) (below_size (by repeat (first | (with_reducible first | exact HB.out | apply below_alloc | apply pw_below_drewN | apply below_drew1) | exact HB.out)))); have n3_ := Aside0.mk (Kd.R_lower (Kd.R_new' (Kd.R_new' ho1 (Kd.R_lt (by (with_reducible repeat (first | apply Kd.R_alloc | apply Kd.R_drewN | apply Kd.R_drew)); exact HO235.out))) (Kd.R_lt (by (with_reducible repeat (first | apply Kd.R_alloc | apply Kd.R_drewN | apply Kd.R_drew)); exact HO237.out))) (below_size (by repeat (first | (with_reducible first | exact HB.out | apply below_alloc | apply pw_below_drewN | apply below_drew1) | exact HB.out)))); have n4_ := Aside0.mk (below_step (by repeat (first | (with_reducible first | exact HB.out | apply below_alloc | apply pw_below_drewN | apply below_drew1) | exact HB.out)) hb); clear HO235; clear HO237; clear HB; have HO235 := n0_; have HO237 := n1_; have HO241 := n2_; have HO243 := n3_; have HB := n4_; clear n0_ n1_ n2_ n3_ n4_; (try clear hb); (try clear hb2); (try clear hk); (try clear hi); (try clear ho0); (try clear ho1)))
  repeat (go_quiet (first | (go_at_call 131; (with_reducible refine (cachepotref1_Runes.calls k a0 t232 t233 _ A3.out).mono ?_); rintro e w5 ⟨v234, v236, rfl, ho0, ho1, hb⟩; have n0_ := Aside0.mk (Kd.R_lower ho0 (below_size (by repeat (first | (with_reducible first | exact HB.out | apply below_alloc | apply pw_below_drewN | apply below_drew1) | exact HB.out)))); have n1_ := Aside0.mk (Kd.R_lower ho1 (below_size (by repeat (first | (with_reducible first | exact HB.out | apply below_alloc | apply pw_below_drewN | apply below_drew1) | exact HB.out)))); have n2_ := Aside0.mk (below_step (by repeat (first | (with_reducible first | exact HB.out | apply below_alloc | apply pw_below_drewN | apply below_drew1) | exact HB.out)) hb); clear HB; have HO235 := n0_; have HO237 := n1_; have HB := n2_; clear n0_ n1_ n2_; (try clear hb); (try clear hb2); (try clear hk); (try clear hi); (try clear ho0); (try clear ho1)) | (go_at_call 131; (with_reducible refine (cachepotref1_Runes.calls k a1 t238 t239 _ A4.out).mono ?_); rintro e w6 ⟨v240, v242, rfl, ho0, ho1, hb⟩; have n0_ := Aside0.mk (Kd.R_mono (Kd.R_told (Kd.R_told (Kd.R_old (by (with_reducible repeat (first | apply Kd.R_alloc | apply Kd.R_drewN | apply Kd.R_drew)); exact HO235.out) hb) (Kd.R_base ho0)) (Kd.R_base ho1)) (fun _ h_ => h_.1)); have n1_ := Aside0.mk (Kd.R_mono (Kd.R_told (Kd.R_told (Kd.R_old (by (with_reducible repeat (first | apply Kd.R_alloc | apply Kd.R_drewN | apply Kd.R_drew)); exact HO237.out) hb) (Kd.R_base ho0)) (Kd.R_base ho1)) (fun _ h_ => h_.1)); have n2_ := Aside0.mk (Kd.R_lower (Kd.R_new' (Kd.R_new' ho0 (Kd.R_lt (by (with_reducible repeat (first | apply Kd.R_alloc | apply Kd.R_drewN | apply Kd.R_drew)); exact HO235.out))) (Kd.R_lt (by (with_reducible repeat (first | apply Kd.R_alloc | apply Kd.R_drewN | apply Kd.R_drew)); exact HO237.out))) (below_size (by repeat (first | (with_reducible first | exact HB.out | apply below_alloc | apply pw_below_drewN | apply below_drew1) | exact HB.out)))); have n3_ := Aside0.mk (Kd.R_lower (Kd.R_new' (Kd.R_new' ho1 (Kd.R_lt (by (with_reducible repeat (first | apply Kd.R_alloc | apply Kd.R_drewN | apply Kd.R_drew)); exact HO235.out))) (Kd.R_lt (by (with_reducible repeat (first | apply Kd.R_alloc | apply Kd.R_drewN | apply Kd.R_drew)); exact HO237.out))) (below_size (by repeat (first | (with_reducible first | exact HB.out | apply below_alloc | apply pw_below_drewN | apply below_drew1) | exact HB.out)))); have n4_ := Aside0.mk (below_step (by repeat (first | (with_reducible first | exact HB.out | apply below_alloc | apply pw_below_drewN | apply below_drew1) | exact HB.out)) hb); clear HO235; clear HO237; clear HB; have HO235 := n0_; have HO237 := n1_; have HO241 := n2_; have HO243 := n3_; have HB := n4_; clear n0_ n1_ n2_ n3_ n4_; (try clear hb); (try clear hb2); (try clear hk); (try clear hi); (try clear ho0); (try clear ho1))); try go_wp2_with (first | (go_at_call 131; (with_reducible refine (cachepotref1_Runes.calls k a0 t232 t233 _ A3.out).mono ?_); rintro e w5 ⟨v234, v236, rfl, ho0, ho1, hb⟩; have n0_ := Aside0.mk (Kd.R_lower ho0 (below_size (by repeat (first | (with_reducible first | exact HB.out | apply below_alloc | apply pw_below_drewN | apply below_drew1) | exact HB.out)))); have n1_ := Aside0.mk (Kd.R_lower ho1 (below_size (by repeat (first | (with_reducible first | exact HB.out | apply below_alloc | apply pw_below_drewN | apply below_drew1) | exact HB.out)))); have n2_ := Aside0.mk (below_step (by repeat (first | (with_reducible first | exact HB.out | apply below_alloc | apply pw_below_drewN | apply below_drew1) | exact HB.out)) hb); clear HB; have HO235 := n0_; have HO237 := n1_; have HB := n2_; clear n0_ n1_ n2_; (try clear hb); (try clear hb2); (try clear hk); (try clear hi); (try clear ho0); (try clear ho1)) | (go_at_call 131; (with_reducible refine (cachepotref1_Runes.calls k a1 t238 t239 _ A4.out).mono ?_); rintro e w6 ⟨v240, v242, rfl, ho0, ho1, hb⟩; have n0_ := Aside0.mk (Kd.R_mono (Kd.R_told (Kd.R_told (Kd.R_old (by (with_reducible repeat (first | apply Kd.R_alloc | apply Kd.R_drewN | apply Kd.R_drew)); exact HO235.out) hb) (Kd.R_base ho0)) (Kd.R_base ho1)) (fun _ h_ => h_.1)); have n1_ := Aside0.mk (Kd.R_mono (Kd.R_told (Kd.R_told (Kd.R_old (by (with_reducible repeat (first | apply Kd.R_alloc | apply Kd.R_drewN | apply Kd.R_drew)); exact HO237.out) hb) (Kd.R_base ho0)) (Kd.R_base ho1)) (fun _ h_ => h_.1)); have n2_ := Aside0.mk (Kd.R_lower (Kd.R_new' (Kd.R_new' ho0 (Kd.R_lt (by (with_reducible repeat (first | apply Kd.R_alloc | apply Kd.R_drewN | apply Kd.R_drew)); exact HO235.out))) (Kd.R_lt (by (with_reducible repeat (first | apply Kd.R_alloc | apply Kd.R_drewN | apply Kd.R_drew)); exact HO237.out))) (below_size (by repeat (first | (with_reducible first | exact HB.out | apply below_alloc | apply pw_below_drewN | apply below_drew1) | exact HB.out)))); have n3_ := Aside0.mk (Kd.R_lower (Kd.R_new' (Kd.R_new' ho1 (Kd.R_lt (by (with_reducible repeat (first | apply Kd.R_alloc | apply Kd.R_drewN | apply Kd.R_drew)); exact HO235.out))) (Kd.R_lt (by (with_reducible repeat (first | apply Kd.R_alloc | apply Kd.R_drewN | apply Kd.R_drew)); exact HO237.out))) (below_size (by repeat (first | (with_reducible first | exact HB.out | apply below_alloc | apply pw_below_drewN | apply below_drew1) | exact HB.out)))); have n4_ := Aside0.mk (below_step (by repeat (first | (with_reducible first | exact HB.out | apply below_alloc | apply pw_below_drewN | apply below_drew1) | exact HB.out)) hb); clear HO235; clear HO237; clear HB; have HO235 := n0_; have HO237 := n1_; have HO241 := n2_; have HO243 := n3_; have HB := n4_; clear n0_ n1_ n2_ n3_ n4_; (try clear hb); (try clear hb2); (try clear hk); (try clear hi); (try clear ho0); (try clear ho1))))
  go_loopg [9] k (fun kq v9 w' => ∃ (x9_1 : Int), v9 = .int .i64 x9_1 ∧ Aside0 (cachepotref1_KeyCommon.l0 kq t232 t238 x9_1 = some r) ∧ Aside0 (kq ≤ k) ∧ Aside0 (Kd.R (Kd.int .i64) 3 w' w.heap.size (fun k_ => some k_ ≠ (v240 : Value).ownBlock) v234 t232) ∧ Aside0 (Kd.R (Kd.int .i64) 3 w' w.heap.size (fun k_ => some k_ ≠ (v234 : Value).ownBlock) v240 t238) ∧ Aside0 (Below w.heap.size w w'))
  case atStart => exact ⟨(0), (by first | rfl | (simp; done) | (simp [*]; done)), H', ⟨Nat.le_refl _⟩, ⟨by (with_reducible repeat (first | apply Kd.R_alloc | apply Kd.R_drewN | apply Kd.R_drew)); exact Kd.R_mono HO235.out (fun _ hk => hk.1.2)⟩, ⟨by (with_reducible repeat (first | apply Kd.R_alloc | apply Kd.R_drewN | apply Kd.R_drew)); exact Kd.R_mono HO241.out (fun _ hk => hk.1.2)⟩, ⟨by repeat (first | (with_reducible first | exact HB.out | apply below_alloc | apply pw_below_drewN | apply below_drew1) | exact HB.out)⟩⟩
  case round =>
    clear H'
    try clear c1
    try clear p2
    obtain ⟨x9_1, rfl, HA, HK1, HO_5, HO_7, HB⟩ := hrel
    cases gk with
    | zero => exact absurd HA.out (by simp [cachepotref1_KeyCommon.l0])
    | succ k1 =>
      have H := HA.out
      clear HA
      simp only [cachepotref1_KeyCommon.l0] at H
      by_cases c7 : x9_1 < (t232.length : Int)
      · rw [if_pos c7] at H
        have c7b0 : decide (x9_1 < (t232.length : Int)) = true := decide_eq_true c7
        clear c7
        by_cases c8 : x9_1 < (t238.length : Int)
        · rw [if_pos c8] at H
          have c8b0 : decide (x9_1 < (t238.length : Int)) = true := decide_eq_true c8
          clear c8
          by_cases c9 : 0 ≤ x9_1
          · rw [if_pos c9] at H
            have c9b0 : decide (0 ≤ x9_1) = true := decide_eq_true c9
            clear c9
            by_cases c10 : (rd t232 x9_1) = (rd t238 x9_1)
            · rw [if_pos c10] at H
              have c10b0 : ((rd t232 x9_1) == (rd t238 x9_1)) = true := beq_iff_eq.mpr c10
              have c10b1 : ((rd t232 x9_1) != (rd t238 x9_1)) = false := bne_eq_false_iff_eq.mpr c10
              clear c10
              have H' := Aside0.mk H
              clear H
              obtain ⟨Ao11, co11, eo11⟩ := Kd.R_slice HO_5.out
              subst eo11
              obtain ⟨Ao12, co12, eo12⟩ := Kd.R_slice HO_7.out
              subst eo12
              have p244 : 0 ≤ (x9_1 : Int) := of_decide_eq_true (by first | (with_reducible assumption) | assumption)
              have q244 : x9_1 < (t232.length : Int) := of_decide_eq_true (by first | (with_reducible assumption) | assumption)
              obtain ⟨ad244, e244, hx244_0⟩ := Kd.at_int (Kd.R_reads' HO_5.out).2.2 x9_1 p244 q244
              cases e244
              replace p244 := eq_true p244
              replace q244 := eq_true q244
              have p245 : 0 ≤ (x9_1 : Int) := of_decide_eq_true (by first | (with_reducible assumption) | assumption)
              have q245 : x9_1 < (t238.length : Int) := of_decide_eq_true (by first | (with_reducible assumption) | assumption)
              obtain ⟨ad245, e245, hx245_0⟩ := Kd.at_int (Kd.R_reads' HO_7.out).2.2 x9_1 p245 q245
              cases e245
              replace p245 := eq_true p245
              replace q245 := eq_true q245
              go_wp2
              repeat (go_quiet (fail); try go_wp2)
              go_roundg k1
              case measure => have := HK1.out; omega
              case rel => exact ⟨(wrap64 (x9_1 + 1)), (by first | rfl | (simp; done) | (simp [*]; done)), H', ⟨by have := HK1.out; omega⟩, ⟨by (with_reducible repeat (first | apply Kd.R_alloc | apply Kd.R_drewN | apply Kd.R_drew)); exact HO_5.out⟩, ⟨by (with_reducible repeat (first | apply Kd.R_alloc | apply Kd.R_drewN | apply Kd.R_drew)); exact HO_7.out⟩, ⟨by repeat (first | (with_reducible first | exact HB.out | apply below_alloc | apply pw_below_drewN | apply below_drew1) | exact HB.out)⟩⟩
            · rw [if_neg c10] at H
              have c10b0 : ((rd t232 x9_1) == (rd t238 x9_1)) = false := beq_eq_false_iff_ne.mpr c10
              have c10b1 : ((rd t232 x9_1) != (rd t238 x9_1)) = true := bne_iff_ne.mpr c10
              obtain rfl := Option.some.inj H
              obtain ⟨Ao13, co13, eo13⟩ := Kd.R_slice HO_5.out
              subst eo13
              obtain ⟨Ao14, co14, eo14⟩ := Kd.R_slice HO_7.out
              subst eo14
              have p244 : 0 ≤ (x9_1 : Int) := of_decide_eq_true (by first | (with_reducible assumption) | assumption)
              have q244 : x9_1 < (t232.length : Int) := of_decide_eq_true (by first | (with_reducible assumption) | assumption)
              obtain ⟨ad244, e244, hx244_0⟩ := Kd.at_int (Kd.R_reads' HO_5.out).2.2 x9_1 p244 q244
              cases e244
              replace p244 := eq_true p244
              replace q244 := eq_true q244
              have p245 : 0 ≤ (x9_1 : Int) := of_decide_eq_true (by first | (with_reducible assumption) | assumption)
              have q245 : x9_1 < (t238.length : Int) := of_decide_eq_true (by first | (with_reducible assumption) | assumption)
              obtain ⟨ad245, e245, hx245_0⟩ := Kd.at_int (Kd.R_reads' HO_7.out).2.2 x9_1 p245 q245
              cases e245
              replace p245 := eq_true p245
              replace q245 := eq_true q245
              go_wp2
              repeat (go_quiet (fail); try go_wp2)
              go_ret
              exact ⟨by first | rfl | (simp [errW_none, errW_some] <;> rfl) | (simp [*, errW_none, errW_some] <;> rfl), by repeat (first | (with_reducible first | exact HB.out | apply below_alloc | apply pw_below_drewN | apply below_drew1) | exact HB.out)⟩
          · rw [if_neg c9] at H
            exact absurd H (by simp)
        · rw [if_neg c8] at H
          have c8b0 : decide (x9_1 < (t238.length : Int)) = false := decide_eq_false c8
          clear c8
          obtain rfl := Option.some.inj H
          obtain ⟨Ao15, co15, eo15⟩ := Kd.R_slice HO_5.out
          subst eo15
          obtain ⟨Ao16, co16, eo16⟩ := Kd.R_slice HO_7.out
          subst eo16
          go_wp2
          repeat (go_quiet (fail); try go_wp2)
          go_ret
          exact ⟨by first | rfl | (simp [errW_none, errW_some] <;> rfl) | (simp [*, errW_none, errW_some] <;> rfl), by repeat (first | (with_reducible first | exact HB.out | apply below_alloc | apply pw_below_drewN | apply below_drew1) | exact HB.out)⟩
      · rw [if_neg c7] at H
        have c7b0 : decide (x9_1 < (t232.length : Int)) = false := decide_eq_false c7
        clear c7
        obtain rfl := Option.some.inj H
        obtain ⟨Ao17, co17, eo17⟩ := Kd.R_slice HO_5.out
        subst eo17
        go_wp2
        repeat (go_quiet (fail); try go_wp2)
        go_ret
        exact ⟨by first | rfl | (simp [errW_none, errW_some] <;> rfl) | (simp [*, errW_none, errW_some] <;> rfl), by repeat (first | (with_reducible first | exact HB.out | apply below_alloc | apply pw_below_drewN | apply below_drew1) | exact HB.out)⟩
def cachepotref1_KeyCmp.j0 : Nat → List Int → List Int → Int → Bool → Option (Int)
  | 0, _, _, _, _ => none
  | k + 1, x5, x7, x9, x23 => if x23 = true then (some 0) else (if x9 = (x5.length : Int) then (some (-1)) else (if x9 = (x7.length : Int) then (some 1) else (if 0 ≤ x9 then (if x9 < (x5.length : Int) then (if x9 < (x7.length : Int) then (if (rd x5 x9) < (rd x7 x9) then (some (-1)) else (some 1)) else (none)) else (none)) else (none))))
def cachepotref1_KeyCmp.f (k : Nat) (a0 : ByteArray) (a1 : ByteArray) : Option (Int) := (cachepotref1_Runes.f k a0).bind fun bt246 => ((cachepotref1_Runes.f k a1).bind fun bt252 => ((cachepotref1_KeyCommon.f k a0 a1).bind fun t258 => (if t258 = (bt246.1.length : Int) then (cachepotref1_KeyCmp.j0 k bt246.1 bt252.1 t258 (t258 == (bt252.1.length : Int))) else (cachepotref1_KeyCmp.j0 k bt246.1 bt252.1 t258 false))))
set_option maxHeartbeats 8000000 in
set_option maxRecDepth 100000 in
theorem cachepotref1_KeyCmp.calls (k : Nat) (a0 : ByteArray) (a1 : ByteArray) (r : Int) (w : World) (h : cachepotref1_KeyCmp.f k a0 a1 = some r) :
    Calls Tryd.prog 121 #[.string a0, .string a1] w fun e w' => e = .returned (.int .i64 r) ∧ Below w.heap.size w w' := by
  have HB := Aside0.mk (Below.refl w.heap.size w)
  have H : ((cachepotref1_Runes.f k a0).bind fun bt246 => ((cachepotref1_Runes.f k a1).bind fun bt252 => ((cachepotref1_KeyCommon.f k a0 a1).bind fun t258 => (if t258 = (bt246.1.length : Int) then (cachepotref1_KeyCmp.j0 k bt246.1 bt252.1 t258 (t258 == (bt252.1.length : Int))) else (cachepotref1_KeyCmp.j0 k bt246.1 bt252.1 t258 false))))) = some r := h
  clear h
  replace H := Option.bind_eq_some_iff.mp H
  obtain ⟨⟨t246, t247⟩, A30, H⟩ := H
  replace H : ((cachepotref1_Runes.f k a1).bind fun bt252 => ((cachepotref1_KeyCommon.f k a0 a1).bind fun t258 => (if t258 = (t246.length : Int) then (cachepotref1_KeyCmp.j0 k t246 bt252.1 t258 (t258 == (bt252.1.length : Int))) else (cachepotref1_KeyCmp.j0 k t246 bt252.1 t258 false)))) = some r := H
  have A3 := Aside0.mk A30
  clear A30
  replace H := Option.bind_eq_some_iff.mp H
  obtain ⟨⟨t252, t253⟩, A40, H⟩ := H
  replace H : ((cachepotref1_KeyCommon.f k a0 a1).bind fun t258 => (if t258 = (t246.length : Int) then (cachepotref1_KeyCmp.j0 k t246 t252 t258 (t258 == (t252.length : Int))) else (cachepotref1_KeyCmp.j0 k t246 t252 t258 false))) = some r := H
  have A4 := Aside0.mk A40
  clear A40
  replace H := Option.bind_eq_some_iff.mp H
  obtain ⟨t258, A50, H⟩ := H
  replace H : (if t258 = (t246.length : Int) then (cachepotref1_KeyCmp.j0 k t246 t252 t258 (t258 == (t252.length : Int))) else (cachepotref1_KeyCmp.j0 k t246 t252 t258 false)) = some r := H
  have A5 := Aside0.mk A50
  clear A50
  have HC6 := Aside0.mk H
  clear H
  go_enter Tryd.func121, Tryd.ntmps121
  go_upto_region 4 with (first | (go_at_call 131; (with_reducible refine (cachepotref1_Runes.calls k a0 t246 t247 _ A3.out).mono ?_); rintro e w7 ⟨v248, v250, rfl, ho0, ho1, hb⟩; have n0_ := Aside0.mk (Kd.R_lower ho0 (below_size (by repeat (first | (with_reducible first | exact HB.out | apply below_alloc | apply pw_below_drewN | apply below_drew1) | exact HB.out)))); have n1_ := Aside0.mk (Kd.R_lower ho1 (below_size (by repeat (first | (with_reducible first | exact HB.out | apply below_alloc | apply pw_below_drewN | apply below_drew1) | exact HB.out)))); have n2_ := Aside0.mk (below_step (by repeat (first | (with_reducible first | exact HB.out | apply below_alloc | apply pw_below_drewN | apply below_drew1) | exact HB.out)) hb); clear HB; have HO249 := n0_; have HO251 := n1_; have HB := n2_; clear n0_ n1_ n2_; (try clear hb); (try clear hb2); (try clear hk); (try clear hi); (try clear ho0); (try clear ho1)) | (go_at_call 131; (with_reducible refine (cachepotref1_Runes.calls k a1 t252 t253 _ A4.out).mono ?_); rintro e w8 ⟨v254, v256, rfl, ho0, ho1, hb⟩; have n0_ := Aside0.mk (Kd.R_mono (Kd.R_told (Kd.R_told (Kd.R_old (by (with_reducible repeat (first | apply Kd.R_alloc | apply Kd.R_drewN | apply Kd.R_drew)); exact HO249.out) hb) (Kd.R_base ho0)) (Kd.R_base ho1)) (fun _ h_ => h_.1)); have n1_ := Aside0.mk (Kd.R_mono (Kd.R_told (Kd.R_told (Kd.R_old (by (with_reducible repeat (first | apply Kd.R_alloc | apply Kd.R_drewN | apply Kd.R_drew)); exact HO251.out) hb) (Kd.R_base ho0)) (Kd.R_base ho1)) (fun _ h_ => h_.1)); have n2_ := Aside0.mk (Kd.R_lower (Kd.R_new' (Kd.R_new' ho0 (Kd.R_lt (by (with_reducible repeat (first | apply Kd.R_alloc | apply Kd.R_drewN | apply Kd.R_drew)); exact HO249.out))) (Kd.R_lt (by (with_reducible repeat (first | apply Kd.R_alloc | apply Kd.R_drewN | apply Kd.R_drew)); exact HO251.out))) (below_size (by repeat (first | (with_reducible first | exact HB.out | apply below_alloc | apply pw_below_drewN | apply below_drew1) | exact HB.out)))); have n3_ := Aside0.mk (Kd.R_lower (Kd.R_new' (Kd.R_new' ho1 (Kd.R_lt (by (with_reducible repeat (first | apply Kd.R_alloc | apply Kd.R_drewN | apply Kd.R_drew)); exact HO249.out))) (Kd.R_lt (by (with_reducible repeat (first | apply Kd.R_alloc | apply Kd.R_drewN | apply Kd.R_drew)); exact HO251.out))) (below_size (by repeat (first | (with_reducible first | exact HB.out | apply below_alloc | apply pw_below_drewN | apply below_drew1) | exact HB.out)))); have n4_ := Aside0.mk (below_step (by repeat (first | (with_reducible first | exact HB.out | apply below_alloc | apply pw_below_drewN | apply below_drew1) | exact HB.out)) hb); clear HO249; clear HO251; clear HB; have HO249 := n0_; have HO251 := n1_; have HO255 := n2_; have HO257 := n3_; have HB := n4_; clear n0_ n1_ n2_ n3_ n4_; (try clear hb); (try clear hb2); (try clear hk); (try clear hi); (try clear ho0); (try clear ho1)) | (go_at_call 132; (with_reducible refine (cachepotref1_KeyCommon.calls k a0 a1 t258 _ A5.out).mono ?_); rintro e w9 ⟨rfl, hb⟩; have n0_ := Aside0.mk (Kd.R_below (by (with_reducible repeat (first | apply Kd.R_alloc | apply Kd.R_drewN | apply Kd.R_drew)); exact HO249.out) hb); have n1_ := Aside0.mk (Kd.R_below (by (with_reducible repeat (first | apply Kd.R_alloc | apply Kd.R_drewN | apply Kd.R_drew)); exact HO251.out) hb); have n2_ := Aside0.mk (Kd.R_below (by (with_reducible repeat (first | apply Kd.R_alloc | apply Kd.R_drewN | apply Kd.R_drew)); exact HO255.out) hb); have n3_ := Aside0.mk (Kd.R_below (by (with_reducible repeat (first | apply Kd.R_alloc | apply Kd.R_drewN | apply Kd.R_drew)); exact HO257.out) hb); have n4_ := Aside0.mk (below_step (by repeat (first | (with_reducible first | exact HB.out | apply below_alloc | apply pw_below_drewN | apply below_drew1) | exact HB.out)) hb); clear HO249; clear HO251; clear HO255; clear HO257; clear HB; have HO249 := n0_; have HO251 := n1_; have HO255 := n2_; have HO257 := n3_; have HB := n4_; clear n0_ n1_ n2_ n3_ n4_; (try clear hb); (try clear hb2); (try clear hk); (try clear hi)))
  repeat (go_quiet (first | (go_at_call 131; (with_reducible refine (cachepotref1_Runes.calls k a0 t246 t247 _ A3.out).mono ?_); rintro e w7 ⟨v248, v250, rfl, ho0, ho1, hb⟩; have n0_ := Aside0.mk (Kd.R_lower ho0 (below_size (by repeat (first | (with_reducible first | exact HB.out | apply below_alloc | apply pw_below_drewN | apply below_drew1) | exact HB.out)))); have n1_ := Aside0.mk (Kd.R_lower ho1 (below_size (by repeat (first | (with_reducible first | exact HB.out | apply below_alloc | apply pw_below_drewN | apply below_drew1) | exact HB.out)))); have n2_ := Aside0.mk (below_step (by repeat (first | (with_reducible first | exact HB.out | apply below_alloc | apply pw_below_drewN | apply below_drew1) | exact HB.out)) hb); clear HB; have HO249 := n0_; have HO251 := n1_; have HB := n2_; clear n0_ n1_ n2_; (try clear hb); (try clear hb2); (try clear hk); (try clear hi); (try clear ho0); (try clear ho1)) | (go_at_call 131; (with_reducible refine (cachepotref1_Runes.calls k a1 t252 t253 _ A4.out).mono ?_); rintro e w8 ⟨v254, v256, rfl, ho0, ho1, hb⟩; have n0_ := Aside0.mk (Kd.R_mono (Kd.R_told (Kd.R_told (Kd.R_old (by (with_reducible repeat (first | apply Kd.R_alloc | apply Kd.R_drewN | apply Kd.R_drew)); exact HO249.out) hb) (Kd.R_base ho0)) (Kd.R_base ho1)) (fun _ h_ => h_.1)); have n1_ := Aside0.mk (Kd.R_mono (Kd.R_told (Kd.R_told (Kd.R_old (by (with_reducible repeat (first | apply Kd.R_alloc | apply Kd.R_drewN | apply Kd.R_drew)); exact HO251.out) hb) (Kd.R_base ho0)) (Kd.R_base ho1)) (fun _ h_ => h_.1)); have n2_ := Aside0.mk (Kd.R_lower (Kd.R_new' (Kd.R_new' ho0 (Kd.R_lt (by (with_reducible repeat (first | apply Kd.R_alloc | apply Kd.R_drewN | apply Kd.R_drew)); exact HO249.out))) (Kd.R_lt (by (with_reducible repeat (first | apply Kd.R_alloc | apply Kd.R_drewN | apply Kd.R_drew)); exact HO251.out))) (below_size (by repeat (first | (with_reducible first | exact HB.out | apply below_alloc | apply pw_below_drewN | apply below_drew1) | exact HB.out)))); have n3_ := Aside0.mk (Kd.R_lower (Kd.R_new' (Kd.R_new' ho1 (Kd.R_lt (by (with_reducible repeat (first | apply Kd.R_alloc | apply Kd.R_drewN | apply Kd.R_drew)); exact HO249.out))) (Kd.R_lt (by (with_reducible repeat (first | apply Kd.R_alloc | apply Kd.R_drewN | apply Kd.R_drew)); exact HO251.out))) (below_size (by repeat (first | (with_reducible first | exact HB.out | apply below_alloc | apply pw_below_drewN | apply below_drew1) | exact HB.out)))); have n4_ := Aside0.mk (below_step (by repeat (first | (with_reducible first | exact HB.out | apply below_alloc | apply pw_below_drewN | apply below_drew1) | exact HB.out)) hb); clear HO249; clear HO251; clear HB; have HO249 := n0_; have HO251 := n1_; have HO255 := n2_; have HO257 := n3_; have HB := n4_; clear n0_ n1_ n2_ n3_ n4_; (try clear hb); (try clear hb2); (try clear hk); (try clear hi); (try clear ho0); (try clear ho1)) | (go_at_call 132; (with_reducible refine (cachepotref1_KeyCommon.calls k a0 a1 t258 _ A5.out).mono ?_); rintro e w9 ⟨rfl, hb⟩; have n0_ := Aside0.mk (Kd.R_below (by (with_reducible repeat (first | apply Kd.R_alloc | apply Kd.R_drewN | apply Kd.R_drew)); exact HO249.out) hb); have n1_ := Aside0.mk (Kd.R_below (by (with_reducible repeat (first | apply Kd.R_alloc | apply Kd.R_drewN | apply Kd.R_drew)); exact HO251.out) hb); have n2_ := Aside0.mk (Kd.R_below (by (with_reducible repeat (first | apply Kd.R_alloc | apply Kd.R_drewN | apply Kd.R_drew)); exact HO255.out) hb); have n3_ := Aside0.mk (Kd.R_below (by (with_reducible repeat (first | apply Kd.R_alloc | apply Kd.R_drewN | apply Kd.R_drew)); exact HO257.out) hb); have n4_ := Aside0.mk (below_step (by repeat (first | (with_reducible first | exact HB.out | apply below_alloc | apply pw_below_drewN | apply below_drew1) | exact HB.out)) hb); clear HO249; clear HO251; clear HO255; clear HO257; clear HB; have HO249 := n0_; have HO251 := n1_; have HO255 := n2_; have HO257 := n3_; have HB := n4_; clear n0_ n1_ n2_ n3_ n4_; (try clear hb); (try clear hb2); (try clear hk); (try clear hi))); go_upto_region 4 with (first | (go_at_call 131; (with_reducible refine (cachepotref1_Runes.calls k a0 t246 t247 _ A3.out).mono ?_); rintro e w7 ⟨v248, v250, rfl, ho0, ho1, hb⟩; have n0_ := Aside0.mk (Kd.R_lower ho0 (below_size (by repeat (first | (with_reducible first | exact HB.out | apply below_alloc | apply pw_below_drewN | apply below_drew1) | exact HB.out)))); have n1_ := Aside0.mk (Kd.R_lower ho1 (below_size (by repeat (first | (with_reducible first | exact HB.out | apply below_alloc | apply pw_below_drewN | apply below_drew1) | exact HB.out)))); have n2_ := Aside0.mk (below_step (by repeat (first | (with_reducible first | exact HB.out | apply below_alloc | apply pw_below_drewN | apply below_drew1) | exact HB.out)) hb); clear HB; have HO249 := n0_; have HO251 := n1_; have HB := n2_; clear n0_ n1_ n2_; (try clear hb); (try clear hb2); (try clear hk); (try clear hi); (try clear ho0); (try clear ho1)) | (go_at_call 131; (with_reducible refine (cachepotref1_Runes.calls k a1 t252 t253 _ A4.out).mono ?_); rintro e w8 ⟨v254, v256, rfl, ho0, ho1, hb⟩; have n0_ := Aside0.mk (Kd.R_mono (Kd.R_told (Kd.R_told (Kd.R_old (by (with_reducible repeat (first | apply Kd.R_alloc | apply Kd.R_drewN | apply Kd.R_drew)); exact HO249.out) hb) (Kd.R_base ho0)) (Kd.R_base ho1)) (fun _ h_ => h_.1)); have n1_ := Aside0.mk (Kd.R_mono (Kd.R_told (Kd.R_told (Kd.R_old (by (with_reducible repeat (first | apply Kd.R_alloc | apply Kd.R_drewN | apply Kd.R_drew)); exact HO251.out) hb) (Kd.R_base ho0)) (Kd.R_base ho1)) (fun _ h_ => h_.1)); have n2_ := Aside0.mk (Kd.R_lower (Kd.R_new' (Kd.R_new' ho0 (Kd.R_lt (by (with_reducible repeat (first | apply Kd.R_alloc | apply Kd.R_drewN | apply Kd.R_drew)); exact HO249.out))) (Kd.R_lt (by (with_reducible repeat (first | apply Kd.R_alloc | apply Kd.R_drewN | apply Kd.R_drew)); exact HO251.out))) (below_size (by repeat (first | (with_reducible first | exact HB.out | apply below_alloc | apply pw_below_drewN | apply below_drew1) | exact HB.out)))); have n3_ := Aside0.mk (Kd.R_lower (Kd.R_new' (Kd.R_new' ho1 (Kd.R_lt (by (with_reducible repeat (first | apply Kd.R_alloc | apply Kd.R_drewN | apply Kd.R_drew)); exact HO249.out))) (Kd.R_lt (by (with_reducible repeat (first | apply Kd.R_alloc | apply Kd.R_drewN | apply Kd.R_drew)); exact HO251.out))) (below_size (by repeat (first | (with_reducible first | exact HB.out | apply below_alloc | apply pw_below_drewN | apply below_drew1) | exact HB.out)))); have n4_ := Aside0.mk (below_step (by repeat (first | (with_reducible first | exact HB.out | apply below_alloc | apply pw_below_drewN | apply below_drew1) | exact HB.out)) hb); clear HO249; clear HO251; clear HB; have HO249 := n0_; have HO251 := n1_; have HO255 := n2_; have HO257 := n3_; have HB := n4_; clear n0_ n1_ n2_ n3_ n4_; (try clear hb); (try clear hb2); (try clear hk); (try clear hi); (try clear ho0); (try clear ho1)) | (go_at_call 132; (with_reducible refine (cachepotref1_KeyCommon.calls k a0 a1 t258 _ A5.out).mono ?_); rintro e w9 ⟨rfl, hb⟩; have n0_ := Aside0.mk (Kd.R_below (by (with_reducible repeat (first | apply Kd.R_alloc | apply Kd.R_drewN | apply Kd.R_drew)); exact HO249.out) hb); have n1_ := Aside0.mk (Kd.R_below (by (with_reducible repeat (first | apply Kd.R_alloc | apply Kd.R_drewN | apply Kd.R_drew)); exact HO251.out) hb); have n2_ := Aside0.mk (Kd.R_below (by (with_reducible repeat (first | apply Kd.R_alloc | apply Kd.R_drewN | apply Kd.R_drew)); exact HO255.out) hb); have n3_ := Aside0.mk (Kd.R_below (by (with_reducible repeat (first | apply Kd.R_alloc | apply Kd.R_drewN | apply Kd.R_drew)); exact HO257.out) hb); have n4_ := Aside0.mk (below_step (by repeat (first | (with_reducible first | exact HB.out | apply below_alloc | apply pw_below_drewN | apply below_drew1) | exact HB.out)) hb); clear HO249; clear HO251; clear HO255; clear HO257; clear HB; have HO249 := n0_; have HO251 := n1_; have HO255 := n2_; have HO257 := n3_; have HB := n4_; clear n0_ n1_ n2_ n3_ n4_; (try clear hb); (try clear hb2); (try clear hk); (try clear hi))))
  (try simp only [Act.put, List.setIfInBounds_toArray, List.set_cons_zero, List.set_cons_succ])
  go_cut [23] (fun v23 wc => ∃ (kq : Nat) (x23_5 : Bool), v23 = .bool x23_5 ∧ Aside0 (cachepotref1_KeyCmp.j0 kq t246 t252 t258 x23_5 = some r) ∧ Aside0 (kq ≤ k) ∧ Aside0 (Kd.R (Kd.int .i64) 3 wc w.heap.size (fun k_ => some k_ ≠ (v254 : Value).ownBlock) v248 t246) ∧ Aside0 (Kd.R (Kd.int .i64) 3 wc w.heap.size (fun k_ => some k_ ≠ (v248 : Value).ownBlock) v254 t252) ∧ Aside0 (Below w.heap.size w wc))
  case first =>
    have H := HC6.out
    clear HC6
    by_cases c10 : t258 = (t246.length : Int)
    · rw [if_pos c10] at H
      have c10b0 : (t258 == (t246.length : Int)) = true := beq_iff_eq.mpr c10
      have c10b1 : (t258 != (t246.length : Int)) = false := bne_eq_false_iff_eq.mpr c10
      clear c10
      (first | rw [c10b0] | (simp only [i64_w, i32_w]; rw [c10b0]) | skip)
      have H' := Aside0.mk H
      clear H
      obtain ⟨Ao11, co11, eo11⟩ := Kd.R_slice HO249.out
      subst eo11
      obtain ⟨Ao12, co12, eo12⟩ := Kd.R_slice HO255.out
      subst eo12
      go_wp2
      repeat (go_quiet (fail); try go_wp2)
      go_meet
      case rel => exact ⟨_, ((t258 == (t252.length : Int))), (by first | rfl | (simp; done) | (simp [*]; done)), H', ⟨by first | omega | exact Nat.le_refl _⟩, ⟨by (with_reducible repeat (first | apply Kd.R_alloc | apply Kd.R_drewN | apply Kd.R_drew)); exact Kd.R_mono HO249.out (fun _ hk => hk.1.2)⟩, ⟨by (with_reducible repeat (first | apply Kd.R_alloc | apply Kd.R_drewN | apply Kd.R_drew)); exact Kd.R_mono HO255.out (fun _ hk => hk.1.2)⟩, ⟨by repeat (first | (with_reducible first | exact HB.out | apply below_alloc | apply pw_below_drewN | apply below_drew1) | exact HB.out)⟩⟩
    · rw [if_neg c10] at H
      have c10b0 : (t258 == (t246.length : Int)) = false := beq_eq_false_iff_ne.mpr c10
      have c10b1 : (t258 != (t246.length : Int)) = true := bne_iff_ne.mpr c10
      (first | rw [c10b0] | (simp only [i64_w, i32_w]; rw [c10b0]) | skip)
      have H' := Aside0.mk H
      clear H
      obtain ⟨Ao13, co13, eo13⟩ := Kd.R_slice HO249.out
      subst eo13
      go_wp2
      repeat (go_quiet (fail); try go_wp2)
      go_meet
      case rel => exact ⟨_, (false), (by first | rfl | (simp; done) | (simp [*]; done)), H', ⟨by first | omega | exact Nat.le_refl _⟩, ⟨by (with_reducible repeat (first | apply Kd.R_alloc | apply Kd.R_drewN | apply Kd.R_drew)); exact Kd.R_mono HO249.out (fun _ hk => hk.1.2)⟩, ⟨by (with_reducible repeat (first | apply Kd.R_alloc | apply Kd.R_drewN | apply Kd.R_drew)); exact Kd.R_mono HO255.out (fun _ hk => hk.1.2)⟩, ⟨by repeat (first | (with_reducible first | exact HB.out | apply below_alloc | apply pw_below_drewN | apply below_drew1) | exact HB.out)⟩⟩
  case rest =>
    clear HC6
    try clear c1
    try clear p2
    try clear c10
    try clear c10b0
    try clear c10b1
    try clear c12
    obtain ⟨kq, x23_5, rfl, HA, HJ5, HO_5, HO_7, HB⟩ := hcut
    cases kq with
    | zero => exact absurd HA.out (by simp [cachepotref1_KeyCmp.j0])
    | succ kj5 =>
      have H := HA.out
      clear HA
      simp only [cachepotref1_KeyCmp.j0] at H
      by_cases c14 : x23_5 = true
      · subst c14
        have H1 : (some 0) = some r := by rw [if_pos rfl] at H; exact H
        clear H
        have H := H1
        clear H1
        obtain rfl := Option.some.inj H
        go_wp2
        repeat (go_quiet (fail); try go_wp2)
        go_ret
        exact ⟨by first | rfl | (simp [errW_none, errW_some] <;> rfl) | (simp [*, errW_none, errW_some] <;> rfl), by repeat (first | (with_reducible first | exact HB.out | apply below_alloc | apply pw_below_drewN | apply below_drew1) | exact HB.out)⟩
      · replace c14 := Bool.eq_false_iff.mpr c14
        subst c14
        have H1 : (if t258 = (t246.length : Int) then (some (-1)) else (if t258 = (t252.length : Int) then (some 1) else (if 0 ≤ t258 then (if t258 < (t246.length : Int) then (if t258 < (t252.length : Int) then (if (rd t246 t258) < (rd t252 t258) then (some (-1)) else (some 1)) else (none)) else (none)) else (none)))) = some r := by rw [if_neg (show ¬ (false = true) by decide)] at H; exact H
        clear H
        have H := H1
        clear H1
        by_cases c15 : t258 = (t246.length : Int)
        · rw [if_pos c15] at H
          have c15b0 : (t258 == (t246.length : Int)) = true := beq_iff_eq.mpr c15
          have c15b1 : (t258 != (t246.length : Int)) = false := bne_eq_false_iff_eq.mpr c15
          clear c15
          obtain rfl := Option.some.inj H
          obtain ⟨Ao16, co16, eo16⟩ := Kd.R_slice HO_5.out
          subst eo16
          go_wp2
          repeat (go_quiet (fail); try go_wp2)
          go_ret
          exact ⟨by first | rfl | (simp [errW_none, errW_some] <;> rfl) | (simp [*, errW_none, errW_some] <;> rfl), by repeat (first | (with_reducible first | exact HB.out | apply below_alloc | apply pw_below_drewN | apply below_drew1) | exact HB.out)⟩
        · rw [if_neg c15] at H
          have c15b0 : (t258 == (t246.length : Int)) = false := beq_eq_false_iff_ne.mpr c15
          have c15b1 : (t258 != (t246.length : Int)) = true := bne_iff_ne.mpr c15
          by_cases c17 : t258 = (t252.length : Int)
          · rw [if_pos c17] at H
            have c17b0 : (t258 == (t252.length : Int)) = true := beq_iff_eq.mpr c17
            have c17b1 : (t258 != (t252.length : Int)) = false := bne_eq_false_iff_eq.mpr c17
            clear c17
            obtain rfl := Option.some.inj H
            obtain ⟨Ao18, co18, eo18⟩ := Kd.R_slice HO_5.out
            subst eo18
            obtain ⟨Ao19, co19, eo19⟩ := Kd.R_slice HO_7.out
            subst eo19
            go_wp2
            repeat (go_quiet (fail); try go_wp2)
            go_ret
            exact ⟨by first | rfl | (simp [errW_none, errW_some] <;> rfl) | (simp [*, errW_none, errW_some] <;> rfl), by repeat (first | (with_reducible first | exact HB.out | apply below_alloc | apply pw_below_drewN | apply below_drew1) | exact HB.out)⟩
          · rw [if_neg c17] at H
            have c17b0 : (t258 == (t252.length : Int)) = false := beq_eq_false_iff_ne.mpr c17
            have c17b1 : (t258 != (t252.length : Int)) = true := bne_iff_ne.mpr c17
            by_cases c20 : 0 ≤ t258
            · rw [if_pos c20] at H
              have c20b0 : decide (0 ≤ t258) = true := decide_eq_true c20
              clear c20
              by_cases c21 : t258 < (t246.length : Int)
              · rw [if_pos c21] at H
                have c21b0 : decide (t258 < (t246.length : Int)) = true := decide_eq_true c21
                clear c21
                by_cases c22 : t258 < (t252.length : Int)
                · rw [if_pos c22] at H
                  have c22b0 : decide (t258 < (t252.length : Int)) = true := decide_eq_true c22
                  clear c22
                  by_cases c23 : (rd t246 t258) < (rd t252 t258)
                  · rw [if_pos c23] at H
                    have c23b0 : decide ((rd t246 t258) < (rd t252 t258)) = true := decide_eq_true c23
                    clear c23
                    obtain rfl := Option.some.inj H
                    obtain ⟨Ao24, co24, eo24⟩ := Kd.R_slice HO_5.out
                    subst eo24
                    obtain ⟨Ao25, co25, eo25⟩ := Kd.R_slice HO_7.out
                    subst eo25
                    have p259 : 0 ≤ (t258 : Int) := of_decide_eq_true (by first | (with_reducible assumption) | assumption)
                    have q259 : t258 < (t246.length : Int) := of_decide_eq_true (by first | (with_reducible assumption) | assumption)
                    obtain ⟨ad259, e259, hx259_0⟩ := Kd.at_int (Kd.R_reads' HO_5.out).2.2 t258 p259 q259
                    cases e259
                    replace p259 := eq_true p259
                    replace q259 := eq_true q259
                    have p260 : 0 ≤ (t258 : Int) := of_decide_eq_true (by first | (with_reducible assumption) | assumption)
                    have q260 : t258 < (t252.length : Int) := of_decide_eq_true (by first | (with_reducible assumption) | assumption)
                    obtain ⟨ad260, e260, hx260_0⟩ := Kd.at_int (Kd.R_reads' HO_7.out).2.2 t258 p260 q260
                    cases e260
                    replace p260 := eq_true p260
                    replace q260 := eq_true q260
                    go_wp2
                    repeat (go_quiet (fail); try go_wp2)
                    go_ret
                    exact ⟨by first | rfl | (simp [errW_none, errW_some] <;> rfl) | (simp [*, errW_none, errW_some] <;> rfl), by repeat (first | (with_reducible first | exact HB.out | apply below_alloc | apply pw_below_drewN | apply below_drew1) | exact HB.out)⟩
                  · rw [if_neg c23] at H
                    have c23b0 : decide ((rd t246 t258) < (rd t252 t258)) = false := decide_eq_false c23
                    clear c23
                    obtain rfl := Option.some.inj H
                    obtain ⟨Ao26, co26, eo26⟩ := Kd.R_slice HO_5.out
                    subst eo26
                    obtain ⟨Ao27, co27, eo27⟩ := Kd.R_slice HO_7.out
                    subst eo27
                    have p259 : 0 ≤ (t258 : Int) := of_decide_eq_true (by first | (with_reducible assumption) | assumption)
                    have q259 : t258 < (t246.length : Int) := of_decide_eq_true (by first | (with_reducible assumption) | assumption)
                    obtain ⟨ad259, e259, hx259_0⟩ := Kd.at_int (Kd.R_reads' HO_5.out).2.2 t258 p259 q259
                    cases e259
                    replace p259 := eq_true p259
                    replace q259 := eq_true q259
                    have p260 : 0 ≤ (t258 : Int) := of_decide_eq_true (by first | (with_reducible assumption) | assumption)
                    have q260 : t258 < (t252.length : Int) := of_decide_eq_true (by first | (with_reducible assumption) | assumption)
                    obtain ⟨ad260, e260, hx260_0⟩ := Kd.at_int (Kd.R_reads' HO_7.out).2.2 t258 p260 q260
                    cases e260
                    replace p260 := eq_true p260
                    replace q260 := eq_true q260
                    go_wp2
                    repeat (go_quiet (fail); try go_wp2)
                    go_ret
                    exact ⟨by first | rfl | (simp [errW_none, errW_some] <;> rfl) | (simp [*, errW_none, errW_some] <;> rfl), by repeat (first | (with_reducible first | exact HB.out | apply below_alloc | apply pw_below_drewN | apply below_drew1) | exact HB.out)⟩
                · rw [if_neg c22] at H
                  exact absurd H (by simp)
              · rw [if_neg c21] at H
                exact absurd H (by simp)
            · rw [if_neg c20] at H
              exact absurd H (by simp)
def cachepotref1_Ahead.f (k : Nat) (a0 : ByteArray) (a1 : ByteArray) : Option (Bool) := (cachepotref1_KeyCmp.f k a0 a1).bind fun t261 => (if t261 < 0 then (some true) else (if t261 = 0 then (some (Op.bytesLess a0.toList a1.toList)) else (some false)))
set_option maxHeartbeats 8000000 in
set_option maxRecDepth 100000 in
theorem cachepotref1_Ahead.calls (k : Nat) (a0 : ByteArray) (a1 : ByteArray) (r : Bool) (w : World) (h : cachepotref1_Ahead.f k a0 a1 = some r) :
    Calls Tryd.prog 102 #[.string a0, .string a1] w fun e w' => e = .returned (.bool r) ∧ Below w.heap.size w w' := by
  have HB := Aside0.mk (Below.refl w.heap.size w)
  have H : ((cachepotref1_KeyCmp.f k a0 a1).bind fun t261 => (if t261 < 0 then (some true) else (if t261 = 0 then (some (Op.bytesLess a0.toList a1.toList)) else (some false)))) = some r := h
  clear h
  replace H := Option.bind_eq_some_iff.mp H
  obtain ⟨t261, A30, H⟩ := H
  replace H : (if t261 < 0 then (some true) else (if t261 = 0 then (some (Op.bytesLess a0.toList a1.toList)) else (some false))) = some r := H
  have A3 := Aside0.mk A30
  clear A30
  by_cases c4 : t261 < 0
  · rw [if_pos c4] at H
    have c4b0 : decide (t261 < 0) = true := decide_eq_true c4
    clear c4
    obtain rfl := Option.some.inj H
    go_enter Tryd.func102, Tryd.ntmps102
    go_wp2_with (first | ((with_reducible refine gate_callee (f := 121) rfl ?_); refine goesL_ (some 8) rfl rfl Tryd.func121 (by kernel_rfl) rfl #[.string a0, .string a1] rfl (by (try simp only [List.map_toArray, List.map_cons, List.map_nil]); first | done | rfl | (simp only [List.length_drop, List.length_take]; rfl)) ?_; (with_reducible refine (cachepotref1_KeyCmp.calls k a0 a1 t261 _ A3.out).mono ?_); rintro e w5 ⟨rfl, hb⟩; refine ⟨_, rfl, ?_⟩; have n0_ := Aside0.mk (below_step (by repeat (first | (with_reducible first | exact HB.out | apply below_alloc | apply pw_below_drewN | apply below_drew1) | exact HB.out)) hb); clear HB; have HB := n0_; clear n0_; (try clear hb); (try clear hb2); (try clear hk); (try clear hi)))
    go_ret
    exact ⟨by first | rfl | (simp [errW_none, errW_some] <;> rfl) | (simp [*, errW_none, errW_some] <;> rfl), by repeat (first | (with_reducible first | exact HB.out | apply below_alloc | apply pw_below_drewN | apply below_drew1) | exact HB.out)⟩
  · rw [if_neg c4] at H
    have c4b0 : decide (t261 < 0) = false := decide_eq_false c4
    clear c4
    by_cases c6 : t261 = 0
    · rw [if_pos c6] at H
      have c6b0 : (t261 == 0) = true := beq_iff_eq.mpr c6
      have c6b1 : (t261 != 0) = false := bne_eq_false_iff_eq.mpr c6
      clear c6
      obtain rfl := Option.some.inj H
      go_enter Tryd.func102, Tryd.ntmps102
      go_wp2_with (first | ((with_reducible refine gate_callee (f := 121) rfl ?_); refine goesL_ (some 8) rfl rfl Tryd.func121 (by kernel_rfl) rfl #[.string a0, .string a1] rfl (by (try simp only [List.map_toArray, List.map_cons, List.map_nil]); first | done | rfl | (simp only [List.length_drop, List.length_take]; rfl)) ?_; (with_reducible refine (cachepotref1_KeyCmp.calls k a0 a1 t261 _ A3.out).mono ?_); rintro e w7 ⟨rfl, hb⟩; refine ⟨_, rfl, ?_⟩; have n0_ := Aside0.mk (below_step (by repeat (first | (with_reducible first | exact HB.out | apply below_alloc | apply pw_below_drewN | apply below_drew1) | exact HB.out)) hb); clear HB; have HB := n0_; clear n0_; (try clear hb); (try clear hb2); (try clear hk); (try clear hi)))
      go_ret
      exact ⟨by first | rfl | (simp [errW_none, errW_some] <;> rfl) | (simp [*, errW_none, errW_some] <;> rfl), by repeat (first | (with_reducible first | exact HB.out | apply below_alloc | apply pw_below_drewN | apply below_drew1) | exact HB.out)⟩
    · rw [if_neg c6] at H
      have c6b0 : (t261 == 0) = false := beq_eq_false_iff_ne.mpr c6
      have c6b1 : (t261 != 0) = true := bne_iff_ne.mpr c6
      obtain rfl := Option.some.inj H
      go_enter Tryd.func102, Tryd.ntmps102
      go_wp2_with (first | ((with_reducible refine gate_callee (f := 121) rfl ?_); refine goesL_ (some 8) rfl rfl Tryd.func121 (by kernel_rfl) rfl #[.string a0, .string a1] rfl (by (try simp only [List.map_toArray, List.map_cons, List.map_nil]); first | done | rfl | (simp only [List.length_drop, List.length_take]; rfl)) ?_; (with_reducible refine (cachepotref1_KeyCmp.calls k a0 a1 t261 _ A3.out).mono ?_); rintro e w8 ⟨rfl, hb⟩; refine ⟨_, rfl, ?_⟩; have n0_ := Aside0.mk (below_step (by repeat (first | (with_reducible first | exact HB.out | apply below_alloc | apply pw_below_drewN | apply below_drew1) | exact HB.out)) hb); clear HB; have HB := n0_; clear n0_; (try clear hb); (try clear hb2); (try clear hk); (try clear hi)))
      go_ret
      exact ⟨by first | rfl | (simp [errW_none, errW_some] <;> rfl) | (simp [*, errW_none, errW_some] <;> rfl), by repeat (first | (with_reducible first | exact HB.out | apply below_alloc | apply pw_below_drewN | apply below_drew1) | exact HB.out)⟩
def cachepotref3_SameAnswers.l0 : Nat → List (S98) → List (S98) → Int → Option (Bool)
  | 0, _, _, _ => none
  | k + 1, x0, x1, x5 => if x5 < (x0.length : Int) then (if 0 ≤ x5 then (if x5 < (x1.length : Int) then (if (!((((rd_T98 x0 x5).f0).toList) == (((rd_T98 x1 x5).f0).toList)) || (!(((rd_T98 x0 x5).f1) == ((rd_T98 x1 x5).f1)) || (!((((rd_T98 x0 x5).f2).toList) == (((rd_T98 x1 x5).f2).toList)) || (!(((rd_T98 x0 x5).f3) == ((rd_T98 x1 x5).f3)))))) = true then (some false) else (cachepotref3_SameAnswers.l0 k x0 x1 (wrap64 (x5 + 1)))) else (none)) else (none)) else (some true)
def cachepotref3_SameAnswers.f (k : Nat) (l0 : List (S98)) (l1 : List (S98)) : Option (Bool) := if (l0.length : Int) = (l1.length : Int) then (cachepotref3_SameAnswers.l0 k l0 l1 0) else (some false)
def ledger_Rising.l0 : Nat → List (S43) → Int → Bool → List (S43) → Int → Int → Option (Int × Bool)
  | 0, _, _, _, _, _, _ => none
  | k + 1, x0, x4, x5, x8, x9, x10 => if x10 < x9 then (if 0 ≤ x10 then (if x10 < (x8.length : Int) then (if ((rd_T43 x8 x10).f0) = 1 then (if x5 = true then (if ((rd_T43 x8 x10).f1) ≤ x4 then (some (x10, false)) else (ledger_Rising.l0 k x0 ((rd_T43 x8 x10).f1) true x8 x9 (wrap64 (x10 + 1)))) else (ledger_Rising.l0 k x0 ((rd_T43 x8 x10).f1) true x8 x9 (wrap64 (x10 + 1)))) else (ledger_Rising.l0 k x0 x4 x5 x8 x9 (wrap64 (x10 + 1)))) else (none)) else (none)) else (some ((x0.length : Int), true))
def ledger_Rising.f (k : Nat) (l0 : List (S43)) : Option (Int × Bool) := ledger_Rising.l0 k l0 0 false l0 (l0.length : Int) 0
set_option maxHeartbeats 8000000 in
set_option maxRecDepth 100000 in
theorem ledger_Rising.calls (k : Nat) (A0 : Option Addr) (c0 : Nat) (l0 : List (S43)) (r1 : Int) (r2 : Bool) (w : World) (hr0 : Kd.C k43 w A0 l0.length l0) (hc0 : l0.length ≤ c0) (h : ledger_Rising.f k l0 = some (r1, r2)) :
    Calls Tryd.prog 37 #[.slice A0 l0.length c0] w fun e w' => e = .returned (.tuple #[.int .i64 r1, .bool r2]) ∧ Below w.heap.size w w' := by
  have hu43 := Tryd.underlying43
  have HR0 := Aside0.mk hr0
  have HC0 := Aside0.mk hc0
  clear hr0 hc0
  have HB := Aside0.mk (Below.refl w.heap.size w)
  have H : (ledger_Rising.l0 k l0 0 false l0 (l0.length : Int) 0) = some (r1, r2) := h
  clear h
  have H' := Aside0.mk H
  clear H
  go_enter Tryd.func37, Tryd.ntmps37
  go_wp2
  go_loopg [4, 5, 10] k (fun kq v4 v5 v10 w' => ∃ (x4_1 : Int) (x5_1 : Bool) (x10_1 : Int), v4 = .int .u32 x4_1 ∧ v5 = .bool x5_1 ∧ v10 = .int .i64 x10_1 ∧ Aside0 (ledger_Rising.l0 kq l0 x4_1 x5_1 l0 (l0.length : Int) x10_1 = some (r1, r2)) ∧ Aside0 (kq ≤ k) ∧ Aside0 (Below w.heap.size w w'))
  case atStart => exact ⟨(0), (false), (0), (by first | rfl | (simp; done) | (simp [*]; done)), (by first | rfl | (simp; done) | (simp [*]; done)), (by first | rfl | (simp; done) | (simp [*]; done)), H', ⟨Nat.le_refl _⟩, ⟨by repeat (first | (with_reducible first | exact HB.out | apply below_alloc | apply pw_below_drewN | apply below_drew1) | exact HB.out)⟩⟩
  case round =>
    clear H'
    obtain ⟨x4_1, x5_1, x10_1, rfl, rfl, rfl, HA, HK1, HB⟩ := hrel
    cases gk with
    | zero => exact absurd HA.out (by simp [ledger_Rising.l0])
    | succ k1 =>
      have H := HA.out
      clear HA
      simp only [ledger_Rising.l0] at H
      by_cases c2 : x10_1 < (l0.length : Int)
      · rw [if_pos c2] at H
        have c2b0 : decide (x10_1 < (l0.length : Int)) = true := decide_eq_true c2
        clear c2
        by_cases c3 : 0 ≤ x10_1
        · rw [if_pos c3] at H
          have c3b0 : decide (0 ≤ x10_1) = true := decide_eq_true c3
          clear c3
          by_cases c4 : x10_1 < (l0.length : Int)
          · rw [if_pos c4] at H
            have c4b0 : decide (x10_1 < (l0.length : Int)) = true := decide_eq_true c4
            clear c4
            by_cases c5 : ((rd_T43 l0 x10_1).f0) = 1
            · rw [if_pos c5] at H
              have c5b0 : (((rd_T43 l0 x10_1).f0) == 1) = true := beq_iff_eq.mpr c5
              have c5b1 : (((rd_T43 l0 x10_1).f0) != 1) = false := bne_eq_false_iff_eq.mpr c5
              clear c5
              by_cases c6 : x5_1 = true
              · subst c6
                have H1 : (if ((rd_T43 l0 x10_1).f1) ≤ x4_1 then (some (x10_1, false)) else (ledger_Rising.l0 k1 l0 ((rd_T43 l0 x10_1).f1) true l0 (l0.length : Int) (wrap64 (x10_1 + 1)))) = some (r1, r2) := by rw [if_pos rfl] at H; exact H
                clear H
                have H := H1
                clear H1
                by_cases c7 : ((rd_T43 l0 x10_1).f1) ≤ x4_1
                · rw [if_pos c7] at H
                  have c7b0 : decide (((rd_T43 l0 x10_1).f1) ≤ x4_1) = true := decide_eq_true c7
                  clear c7
                  simp only [Option.some.injEq, Prod.mk.injEq] at H
                  obtain ⟨rfl, rfl⟩ := H
                  have p264 : 0 ≤ (x10_1 : Int) := of_decide_eq_true (by first | (with_reducible assumption) | assumption)
                  have q264 : x10_1 < (l0.length : Int) := of_decide_eq_true (by first | (with_reducible assumption) | assumption)
                  obtain ⟨ad264, A264_2, c264_2, A264_3, c264_3, A264_4, c264_4, e264, hx264_0, hx264_1, hx264_2, hx264_3, hx264_4, hl264_2, hi264_2, hl264_3, hi264_3, hl264_4, hi264_4⟩ := at_T43 HR0.out x10_1 p264 q264
                  cases e264
                  replace hx264_0 := (HB.out.cell (World.block_lt_of_cell? w _ hx264_0)).trans hx264_0
                  replace hx264_1 := (HB.out.cell (World.block_lt_of_cell? w _ hx264_1)).trans hx264_1
                  replace hx264_2 := (HB.out.cell (World.block_lt_of_cell? w _ hx264_2)).trans hx264_2
                  replace hx264_3 := (HB.out.cell (World.block_lt_of_cell? w _ hx264_3)).trans hx264_3
                  replace hx264_4 := (HB.out.cell (World.block_lt_of_cell? w _ hx264_4)).trans hx264_4
                  have HR264_2 := Aside0.mk hi264_2
                  have HC264_2 := Aside0.mk hl264_2
                  clear hi264_2 hl264_2
                  have HR264_3 := Aside0.mk hi264_3
                  have HC264_3 := Aside0.mk hl264_3
                  clear hi264_3 hl264_3
                  have HR264_4 := Aside0.mk hi264_4
                  have HC264_4 := Aside0.mk hl264_4
                  clear hi264_4 hl264_4
                  replace p264 := eq_true p264
                  replace q264 := eq_true q264
                  go_wp2_with (first | ((with_reducible refine gate_dst (N := 7) rfl ?_); refine box_event ?hg (N := 7) ?hd (cs := #[.int .i64 0, .int .u32 0, .slice none 0 0, .slice none 0 0, .slice none 0 0]) (t := 43) ?hr ?_; (case hd => rfl); (case hg => rfl); (case hr => first | (go_simp; done) | (go_simp; rfl)); intro gb265 hg w8 hbox hb; have n0_ := Aside0.mk (below_step (by repeat (first | (with_reducible first | exact HB.out | apply below_alloc | apply pw_below_drewN | apply below_drew1) | exact HB.out)) hb); have n1_ := Aside0.mk (hbox); have n2_ := Aside0.mk ((by rw [hg]; exact (below_size (by repeat (first | (with_reducible first | exact HB.out | apply below_alloc | apply pw_below_drewN | apply below_drew1) | exact HB.out))) : w.heap.size ≤ gb265)); have n3_ := Aside0.mk ((by rw [hg]; exact (below_size (by repeat (first | (with_reducible first | exact HB.out | apply below_alloc | apply pw_below_drewN | apply below_drew1) | exact HB.out))) : w.heap.size ≤ gb265)); clear HB; have HB := n0_; have BK265 := n1_; have GW265 := n2_; have GE265 := n3_; clear n0_ n1_ n2_ n3_; clear hb hbox hg; have hcz9_0 : w8.cell? ⟨gb265, 0, none⟩ = some (.int .i64 0) := (blk_cell BK265.out 0).trans rfl; have hcz9_1 : w8.cell? ⟨gb265, 1, none⟩ = some (.int .u32 0) := (blk_cell BK265.out 1).trans rfl; have hcz9_2 : w8.cell? ⟨gb265, 2, none⟩ = some (.slice none 0 0) := (blk_cell BK265.out 2).trans rfl; have hcz9_3 : w8.cell? ⟨gb265, 3, none⟩ = some (.slice none 0 0) := (blk_cell BK265.out 3).trans rfl; have hcz9_4 : w8.cell? ⟨gb265, 4, none⟩ = some (.slice none 0 0) := (blk_cell BK265.out 4).trans rfl; have hfz9_0 := blk_frozen BK265.out 0; have hfz9_1 := blk_frozen BK265.out 1; have hfz9_2 := blk_frozen BK265.out 2; have hfz9_3 := blk_frozen BK265.out 3; have hfz9_4 := blk_frozen BK265.out 4))
                  go_ret2
                  exact ⟨by first | rfl | (simp [errW_none, errW_some] <;> rfl) | (simp [*, errW_none, errW_some] <;> rfl), by repeat (first | (with_reducible first | exact HB.out | apply below_alloc | apply pw_below_drewN | apply below_drew1 | refine below_set ?_ GE265.out) | exact HB.out)⟩
                · rw [if_neg c7] at H
                  have c7b0 : decide (((rd_T43 l0 x10_1).f1) ≤ x4_1) = false := decide_eq_false c7
                  clear c7
                  have H' := Aside0.mk H
                  clear H
                  have p264 : 0 ≤ (x10_1 : Int) := of_decide_eq_true (by first | (with_reducible assumption) | assumption)
                  have q264 : x10_1 < (l0.length : Int) := of_decide_eq_true (by first | (with_reducible assumption) | assumption)
                  obtain ⟨ad264, A264_2, c264_2, A264_3, c264_3, A264_4, c264_4, e264, hx264_0, hx264_1, hx264_2, hx264_3, hx264_4, hl264_2, hi264_2, hl264_3, hi264_3, hl264_4, hi264_4⟩ := at_T43 HR0.out x10_1 p264 q264
                  cases e264
                  replace hx264_0 := (HB.out.cell (World.block_lt_of_cell? w _ hx264_0)).trans hx264_0
                  replace hx264_1 := (HB.out.cell (World.block_lt_of_cell? w _ hx264_1)).trans hx264_1
                  replace hx264_2 := (HB.out.cell (World.block_lt_of_cell? w _ hx264_2)).trans hx264_2
                  replace hx264_3 := (HB.out.cell (World.block_lt_of_cell? w _ hx264_3)).trans hx264_3
                  replace hx264_4 := (HB.out.cell (World.block_lt_of_cell? w _ hx264_4)).trans hx264_4
                  have HR264_2 := Aside0.mk hi264_2
                  have HC264_2 := Aside0.mk hl264_2
                  clear hi264_2 hl264_2
                  have HR264_3 := Aside0.mk hi264_3
                  have HC264_3 := Aside0.mk hl264_3
                  clear hi264_3 hl264_3
                  have HR264_4 := Aside0.mk hi264_4
                  have HC264_4 := Aside0.mk hl264_4
                  clear hi264_4 hl264_4
                  replace p264 := eq_true p264
                  replace q264 := eq_true q264
                  go_wp2_with (first | ((with_reducible refine gate_dst (N := 7) rfl ?_); refine box_event ?hg (N := 7) ?hd (cs := #[.int .i64 0, .int .u32 0, .slice none 0 0, .slice none 0 0, .slice none 0 0]) (t := 43) ?hr ?_; (case hd => rfl); (case hg => rfl); (case hr => first | (go_simp; done) | (go_simp; rfl)); intro gb265 hg w10 hbox hb; have n0_ := Aside0.mk (below_step (by repeat (first | (with_reducible first | exact HB.out | apply below_alloc | apply pw_below_drewN | apply below_drew1) | exact HB.out)) hb); have n1_ := Aside0.mk (hbox); have n2_ := Aside0.mk ((by rw [hg]; exact (below_size (by repeat (first | (with_reducible first | exact HB.out | apply below_alloc | apply pw_below_drewN | apply below_drew1) | exact HB.out))) : w.heap.size ≤ gb265)); have n3_ := Aside0.mk ((by rw [hg]; exact (below_size (by repeat (first | (with_reducible first | exact HB.out | apply below_alloc | apply pw_below_drewN | apply below_drew1) | exact HB.out))) : w.heap.size ≤ gb265)); clear HB; have HB := n0_; have BK265 := n1_; have GW265 := n2_; have GE265 := n3_; clear n0_ n1_ n2_ n3_; clear hb hbox hg; have hcz11_0 : w10.cell? ⟨gb265, 0, none⟩ = some (.int .i64 0) := (blk_cell BK265.out 0).trans rfl; have hcz11_1 : w10.cell? ⟨gb265, 1, none⟩ = some (.int .u32 0) := (blk_cell BK265.out 1).trans rfl; have hcz11_2 : w10.cell? ⟨gb265, 2, none⟩ = some (.slice none 0 0) := (blk_cell BK265.out 2).trans rfl; have hcz11_3 : w10.cell? ⟨gb265, 3, none⟩ = some (.slice none 0 0) := (blk_cell BK265.out 3).trans rfl; have hcz11_4 : w10.cell? ⟨gb265, 4, none⟩ = some (.slice none 0 0) := (blk_cell BK265.out 4).trans rfl; have hfz11_0 := blk_frozen BK265.out 0; have hfz11_1 := blk_frozen BK265.out 1; have hfz11_2 := blk_frozen BK265.out 2; have hfz11_3 := blk_frozen BK265.out 3; have hfz11_4 := blk_frozen BK265.out 4))
                  go_roundg k1
                  case measure => have := HK1.out; omega
                  case rel => exact ⟨((rd_T43 l0 x10_1).f1), (true), (wrap64 (x10_1 + 1)), (by first | rfl | (simp; done) | (simp [*]; done)), (by first | rfl | (simp; done) | (simp [*]; done)), (by first | rfl | (simp; done) | (simp [*]; done)), H', ⟨by have := HK1.out; omega⟩, ⟨by repeat (first | (with_reducible first | exact HB.out | apply below_alloc | apply pw_below_drewN | apply below_drew1 | refine below_set ?_ GE265.out) | exact HB.out)⟩⟩
              · replace c6 := Bool.eq_false_iff.mpr c6
                subst c6
                have H1 : (ledger_Rising.l0 k1 l0 ((rd_T43 l0 x10_1).f1) true l0 (l0.length : Int) (wrap64 (x10_1 + 1))) = some (r1, r2) := by rw [if_neg (show ¬ (false = true) by decide)] at H; exact H
                clear H
                have H := H1
                clear H1
                have H' := Aside0.mk H
                clear H
                have p264 : 0 ≤ (x10_1 : Int) := of_decide_eq_true (by first | (with_reducible assumption) | assumption)
                have q264 : x10_1 < (l0.length : Int) := of_decide_eq_true (by first | (with_reducible assumption) | assumption)
                obtain ⟨ad264, A264_2, c264_2, A264_3, c264_3, A264_4, c264_4, e264, hx264_0, hx264_1, hx264_2, hx264_3, hx264_4, hl264_2, hi264_2, hl264_3, hi264_3, hl264_4, hi264_4⟩ := at_T43 HR0.out x10_1 p264 q264
                cases e264
                replace hx264_0 := (HB.out.cell (World.block_lt_of_cell? w _ hx264_0)).trans hx264_0
                replace hx264_1 := (HB.out.cell (World.block_lt_of_cell? w _ hx264_1)).trans hx264_1
                replace hx264_2 := (HB.out.cell (World.block_lt_of_cell? w _ hx264_2)).trans hx264_2
                replace hx264_3 := (HB.out.cell (World.block_lt_of_cell? w _ hx264_3)).trans hx264_3
                replace hx264_4 := (HB.out.cell (World.block_lt_of_cell? w _ hx264_4)).trans hx264_4
                have HR264_2 := Aside0.mk hi264_2
                have HC264_2 := Aside0.mk hl264_2
                clear hi264_2 hl264_2
                have HR264_3 := Aside0.mk hi264_3
                have HC264_3 := Aside0.mk hl264_3
                clear hi264_3 hl264_3
                have HR264_4 := Aside0.mk hi264_4
                have HC264_4 := Aside0.mk hl264_4
                clear hi264_4 hl264_4
                replace p264 := eq_true p264
                replace q264 := eq_true q264
                go_wp2_with (first | ((with_reducible refine gate_dst (N := 7) rfl ?_); refine box_event ?hg (N := 7) ?hd (cs := #[.int .i64 0, .int .u32 0, .slice none 0 0, .slice none 0 0, .slice none 0 0]) (t := 43) ?hr ?_; (case hd => rfl); (case hg => rfl); (case hr => first | (go_simp; done) | (go_simp; rfl)); intro gb265 hg w12 hbox hb; have n0_ := Aside0.mk (below_step (by repeat (first | (with_reducible first | exact HB.out | apply below_alloc | apply pw_below_drewN | apply below_drew1) | exact HB.out)) hb); have n1_ := Aside0.mk (hbox); have n2_ := Aside0.mk ((by rw [hg]; exact (below_size (by repeat (first | (with_reducible first | exact HB.out | apply below_alloc | apply pw_below_drewN | apply below_drew1) | exact HB.out))) : w.heap.size ≤ gb265)); have n3_ := Aside0.mk ((by rw [hg]; exact (below_size (by repeat (first | (with_reducible first | exact HB.out | apply below_alloc | apply pw_below_drewN | apply below_drew1) | exact HB.out))) : w.heap.size ≤ gb265)); clear HB; have HB := n0_; have BK265 := n1_; have GW265 := n2_; have GE265 := n3_; clear n0_ n1_ n2_ n3_; clear hb hbox hg; have hcz13_0 : w12.cell? ⟨gb265, 0, none⟩ = some (.int .i64 0) := (blk_cell BK265.out 0).trans rfl; have hcz13_1 : w12.cell? ⟨gb265, 1, none⟩ = some (.int .u32 0) := (blk_cell BK265.out 1).trans rfl; have hcz13_2 : w12.cell? ⟨gb265, 2, none⟩ = some (.slice none 0 0) := (blk_cell BK265.out 2).trans rfl; have hcz13_3 : w12.cell? ⟨gb265, 3, none⟩ = some (.slice none 0 0) := (blk_cell BK265.out 3).trans rfl; have hcz13_4 : w12.cell? ⟨gb265, 4, none⟩ = some (.slice none 0 0) := (blk_cell BK265.out 4).trans rfl; have hfz13_0 := blk_frozen BK265.out 0; have hfz13_1 := blk_frozen BK265.out 1; have hfz13_2 := blk_frozen BK265.out 2; have hfz13_3 := blk_frozen BK265.out 3; have hfz13_4 := blk_frozen BK265.out 4))
                go_roundg k1
                case measure => have := HK1.out; omega
                case rel => exact ⟨((rd_T43 l0 x10_1).f1), (true), (wrap64 (x10_1 + 1)), (by first | rfl | (simp; done) | (simp [*]; done)), (by first | rfl | (simp; done) | (simp [*]; done)), (by first | rfl | (simp; done) | (simp [*]; done)), H', ⟨by have := HK1.out; omega⟩, ⟨by repeat (first | (with_reducible first | exact HB.out | apply below_alloc | apply pw_below_drewN | apply below_drew1 | refine below_set ?_ GE265.out) | exact HB.out)⟩⟩
            · rw [if_neg c5] at H
              have c5b0 : (((rd_T43 l0 x10_1).f0) == 1) = false := beq_eq_false_iff_ne.mpr c5
              have c5b1 : (((rd_T43 l0 x10_1).f0) != 1) = true := bne_iff_ne.mpr c5
              have H' := Aside0.mk H
              clear H
              have p264 : 0 ≤ (x10_1 : Int) := of_decide_eq_true (by first | (with_reducible assumption) | assumption)
              have q264 : x10_1 < (l0.length : Int) := of_decide_eq_true (by first | (with_reducible assumption) | assumption)
              obtain ⟨ad264, A264_2, c264_2, A264_3, c264_3, A264_4, c264_4, e264, hx264_0, hx264_1, hx264_2, hx264_3, hx264_4, hl264_2, hi264_2, hl264_3, hi264_3, hl264_4, hi264_4⟩ := at_T43 HR0.out x10_1 p264 q264
              cases e264
              replace hx264_0 := (HB.out.cell (World.block_lt_of_cell? w _ hx264_0)).trans hx264_0
              replace hx264_1 := (HB.out.cell (World.block_lt_of_cell? w _ hx264_1)).trans hx264_1
              replace hx264_2 := (HB.out.cell (World.block_lt_of_cell? w _ hx264_2)).trans hx264_2
              replace hx264_3 := (HB.out.cell (World.block_lt_of_cell? w _ hx264_3)).trans hx264_3
              replace hx264_4 := (HB.out.cell (World.block_lt_of_cell? w _ hx264_4)).trans hx264_4
              have HR264_2 := Aside0.mk hi264_2
              have HC264_2 := Aside0.mk hl264_2
              clear hi264_2 hl264_2
              have HR264_3 := Aside0.mk hi264_3
              have HC264_3 := Aside0.mk hl264_3
              clear hi264_3 hl264_3
              have HR264_4 := Aside0.mk hi264_4
              have HC264_4 := Aside0.mk hl264_4
              clear hi264_4 hl264_4
              replace p264 := eq_true p264
              replace q264 := eq_true q264
              go_wp2_with (first | ((with_reducible refine gate_dst (N := 7) rfl ?_); refine box_event ?hg (N := 7) ?hd (cs := #[.int .i64 0, .int .u32 0, .slice none 0 0, .slice none 0 0, .slice none 0 0]) (t := 43) ?hr ?_; (case hd => rfl); (case hg => rfl); (case hr => first | (go_simp; done) | (go_simp; rfl)); intro gb265 hg w14 hbox hb; have n0_ := Aside0.mk (below_step (by repeat (first | (with_reducible first | exact HB.out | apply below_alloc | apply pw_below_drewN | apply below_drew1) | exact HB.out)) hb); have n1_ := Aside0.mk (hbox); have n2_ := Aside0.mk ((by rw [hg]; exact (below_size (by repeat (first | (with_reducible first | exact HB.out | apply below_alloc | apply pw_below_drewN | apply below_drew1) | exact HB.out))) : w.heap.size ≤ gb265)); have n3_ := Aside0.mk ((by rw [hg]; exact (below_size (by repeat (first | (with_reducible first | exact HB.out | apply below_alloc | apply pw_below_drewN | apply below_drew1) | exact HB.out))) : w.heap.size ≤ gb265)); clear HB; have HB := n0_; have BK265 := n1_; have GW265 := n2_; have GE265 := n3_; clear n0_ n1_ n2_ n3_; clear hb hbox hg; have hcz15_0 : w14.cell? ⟨gb265, 0, none⟩ = some (.int .i64 0) := (blk_cell BK265.out 0).trans rfl; have hcz15_1 : w14.cell? ⟨gb265, 1, none⟩ = some (.int .u32 0) := (blk_cell BK265.out 1).trans rfl; have hcz15_2 : w14.cell? ⟨gb265, 2, none⟩ = some (.slice none 0 0) := (blk_cell BK265.out 2).trans rfl; have hcz15_3 : w14.cell? ⟨gb265, 3, none⟩ = some (.slice none 0 0) := (blk_cell BK265.out 3).trans rfl; have hcz15_4 : w14.cell? ⟨gb265, 4, none⟩ = some (.slice none 0 0) := (blk_cell BK265.out 4).trans rfl; have hfz15_0 := blk_frozen BK265.out 0; have hfz15_1 := blk_frozen BK265.out 1; have hfz15_2 := blk_frozen BK265.out 2; have hfz15_3 := blk_frozen BK265.out 3; have hfz15_4 := blk_frozen BK265.out 4))
              go_roundg k1
              case measure => have := HK1.out; omega
              case rel => exact ⟨(x4_1), (x5_1), (wrap64 (x10_1 + 1)), (by first | rfl | (simp; done) | (simp [*]; done)), (by first | rfl | (simp; done) | (simp [*]; done)), (by first | rfl | (simp; done) | (simp [*]; done)), H', ⟨by have := HK1.out; omega⟩, ⟨by repeat (first | (with_reducible first | exact HB.out | apply below_alloc | apply pw_below_drewN | apply below_drew1 | refine below_set ?_ GE265.out) | exact HB.out)⟩⟩
          · rw [if_neg c4] at H
            exact absurd H (by simp)
        · rw [if_neg c3] at H
          exact absurd H (by simp)
      · rw [if_neg c2] at H
        have c2b0 : decide (x10_1 < (l0.length : Int)) = false := decide_eq_false c2
        clear c2
        simp only [Option.some.injEq, Prod.mk.injEq] at H
        obtain ⟨rfl, rfl⟩ := H
        go_wp2
        go_ret2
        exact ⟨by first | rfl | (simp [errW_none, errW_some] <;> rfl) | (simp [*, errW_none, errW_some] <;> rfl), by repeat (first | (with_reducible first | exact HB.out | apply below_alloc | apply pw_below_drewN | apply below_drew1) | exact HB.out)⟩
end Go.Proofs.YtfaelejeihmgcaaDoor.Lgx
end

section
namespace Go.Proofs.YtfaelejeihmgcaaDoor.Lgx.Rn
open Go.RowKit Go.Proofs.YtfaelejeihmgcaaDoorW.PrintWords Go.Proofs.YtfaelejeihmgcaaDoorW.PrintLast
theorem get_lt (t : ByteArray) (i : Nat) (h : i < t.size) : t.get! i = t[i] := by
  cases t with
  | mk d => exact getElem!_pos d i h
theorem get_ge (t : ByteArray) (i : Nat) (h : ¬ i < t.size) : t.get! i = default := by
  cases t with
  | mk d => exact getElem!_neg d i h
theorem bt_get (t : ByteArray) (j : Int) : bt t j = ((t.get! j.toNat).toNat : Int) := by
  unfold bt
  split
  · rename_i h
    rw [get_lt t _ h]
  · rename_i h
    rw [get_ge t _ h]
    rfl
set_option maxRecDepth 100000 in
theorem and31 : ∀ x : Fin 256, Go.bits .and .u8 ((x.val : Nat) : Int) 31 = ((x.val % 32 : Nat) : Int) := by decide
set_option maxRecDepth 100000 in
theorem and15 : ∀ x : Fin 256, Go.bits .and .u8 ((x.val : Nat) : Int) 15 = ((x.val % 16 : Nat) : Int) := by decide
set_option maxRecDepth 100000 in
theorem and7 : ∀ x : Fin 256, Go.bits .and .u8 ((x.val : Nat) : Int) 7 = ((x.val % 8 : Nat) : Int) := by decide
set_option maxRecDepth 100000 in
theorem and63 : ∀ x : Fin 256, Go.bits .and .u8 ((x.val : Nat) : Int) 63 = ((x.val % 64 : Nat) : Int) := by decide
theorem follows_f (s : ByteArray) (i : Nat) (lo hi : Int) : cachepotref1_follows.f s (i : Int) lo hi = some (decide (i < s.size ∧ lo ≤ ((s.get! i).toNat : Int) ∧ ((s.get! i).toNat : Int) ≤ hi)) := by
  unfold cachepotref1_follows.f
  have e : bt s (i : Int) = ((s.get! i).toNat : Int) := by rw [bt_get]; rfl
  rw [e]
  by_cases h1 : i < s.size
  · rw [if_pos (by omega), if_pos (by omega)]
    by_cases h2 : ((s.get! i).toNat : Int) ≥ lo
    · rw [if_pos h2]
      congr 1
      rw [decide_eq_decide]
      exact ⟨fun h => ⟨h1, h2, h⟩, fun h => h.2.2⟩
    · rw [if_neg h2]
      congr 1
      rw [eq_comm, decide_eq_false_iff_not]
      exact fun h => h2 h.2.1
  · rw [if_neg (by omega)]
    congr 1
    rw [eq_comm, decide_eq_false_iff_not]
    exact fun h => h1 h.1
theorem w64 (x : Int) (h0 : -9223372036854775808 ≤ x) (h1 : x ≤ 9223372036854775807) : wrap64 x = x := by unfold wrap64; omega
/-- the shape of the reference's Rune, in numbers: n bytes are left, b0 .. b3 stand there, L and H bound the second -/
def refN (n b0 b1 b2 b3 L H : Nat) : Nat × Nat :=
  if b0 < 128 then (b0, 1)
  else if (194 ≤ b0 ∧ b0 ≤ 223) ∧ (1 < n ∧ 128 ≤ b1 ∧ b1 ≤ 191) then (b0 % 32 * 64 + b1 % 64, 2)
  else if (224 ≤ b0 ∧ b0 ≤ 239) ∧ (1 < n ∧ L ≤ b1 ∧ b1 ≤ H) ∧ (2 < n ∧ 128 ≤ b2 ∧ b2 ≤ 191) then (b0 % 16 * 4096 + b1 % 64 * 64 + b2 % 64, 3)
  else if (240 ≤ b0 ∧ b0 ≤ 244) ∧ (1 < n ∧ L ≤ b1 ∧ b1 ≤ H) ∧ (2 < n ∧ 128 ≤ b2 ∧ b2 ≤ 191) ∧ (3 < n ∧ 128 ≤ b3 ∧ b3 ≤ 191) then (b0 % 8 * 262144 + b1 % 64 * 4096 + b2 % 64 * 64 + b3 % 64, 4)
  else (65533, 1)
def LowOk (b0 L : Nat) : Prop := (b0 = 224 ∧ L = 160) ∨ (b0 = 240 ∧ L = 144) ∨ (b0 ≠ 224 ∧ b0 ≠ 240 ∧ L = 128)
def HighOk (b0 H : Nat) : Prop := (b0 = 237 ∧ H = 159) ∨ (b0 = 244 ∧ H = 143) ∨ (b0 ≠ 237 ∧ b0 ≠ 244 ∧ H = 191)
set_option maxHeartbeats 4000000 in
set_option maxRecDepth 100000 in
theorem refN_eq (n b0 b1 b2 b3 L H : Nat) (h0 : b0 < 256) (h1 : b1 < 256) (h2 : b2 < 256) (h3 : b3 < 256) (hL : LowOk b0 L) (hH : HighOk b0 H) : refN n b0 b1 b2 b3 L H = Lib.decodeN n b0 b1 b2 b3 := by
  unfold refN Lib.decodeN
  unfold LowOk at hL
  unfold HighOk at hH
  by_cases c0 : b0 < 128
  · rw [if_pos c0, if_pos c0]
  rw [if_neg c0, if_neg c0]
  by_cases c1 : (194 ≤ b0 ∧ b0 ≤ 223) ∧ (1 < n ∧ 128 ≤ b1 ∧ b1 ≤ 191)
  · rw [if_pos c1, if_pos (by omega), if_pos (by omega)]
  rw [if_neg c1]
  by_cases d1 : b0 / 32 = 6 ∧ (1 < n ∧ b1 / 64 = 2)
  · rw [if_pos d1, if_neg (by omega), if_neg (by omega), if_neg (by omega)]
  rw [if_neg d1]
  by_cases d2 : b0 / 16 = 14 ∧ (1 < n ∧ b1 / 64 = 2) ∧ (2 < n ∧ b2 / 64 = 2)
  · rw [if_pos d2]
    by_cases c2 : (224 ≤ b0 ∧ b0 ≤ 239) ∧ (1 < n ∧ L ≤ b1 ∧ b1 ≤ H) ∧ (2 < n ∧ 128 ≤ b2 ∧ b2 ≤ 191)
    · rw [if_pos c2, if_pos (by omega)]
    · rw [if_neg c2, if_neg (by omega), if_neg (by omega)]
  rw [if_neg d2, if_neg (by omega)]
  by_cases d3 : b0 / 8 = 30 ∧ (1 < n ∧ b1 / 64 = 2) ∧ (2 < n ∧ b2 / 64 = 2) ∧ (3 < n ∧ b3 / 64 = 2)
  · rw [if_pos d3]
    by_cases c3 : (240 ≤ b0 ∧ b0 ≤ 244) ∧ (1 < n ∧ L ≤ b1 ∧ b1 ≤ H) ∧ (2 < n ∧ 128 ≤ b2 ∧ b2 ≤ 191) ∧ (3 < n ∧ 128 ≤ b3 ∧ b3 ≤ 191)
    · rw [if_pos c3, if_pos (by omega)]
    · rw [if_neg c3, if_neg (by omega)]
  rw [if_neg d3, if_neg (by omega)]
theorem Rune_j0 (k : Nat) (s : ByteArray) (x : Int) (b0 : Nat) : ∃ L H : Nat, LowOk b0 L ∧ HighOk b0 H ∧ (224 ≤ b0 → cachepotref1_Rune.j0 (k + 1) s x (b0 : Int) = cachepotref1_Rune.j1 k s x (b0 : Int) (L : Int) (H : Int)) ∧ (b0 < 224 → cachepotref1_Rune.j0 (k + 1) s x (b0 : Int) = cachepotref1_Rune.j1 k s x (b0 : Int) 128 191) := by
  rw [cachepotref1_Rune.j0]
  by_cases x1 : b0 = 224
  · subst x1; exact ⟨160, 191, by unfold LowOk; omega, by unfold HighOk; omega, fun _ => rfl, fun h => by omega⟩
  by_cases x2 : b0 = 237
  · subst x2; exact ⟨128, 159, by unfold LowOk; omega, by unfold HighOk; omega, fun _ => rfl, fun h => by omega⟩
  by_cases x3 : b0 = 240
  · subst x3; exact ⟨144, 191, by unfold LowOk; omega, by unfold HighOk; omega, fun _ => rfl, fun h => by omega⟩
  by_cases x4 : b0 = 244
  · subst x4; exact ⟨128, 143, by unfold LowOk; omega, by unfold HighOk; omega, fun _ => rfl, fun h => by omega⟩
  rw [if_neg (by omega), if_neg (by omega), if_neg (by omega), if_neg (by omega)]
  exact ⟨128, 191, by unfold LowOk; omega, by unfold HighOk; omega, fun _ => rfl, fun _ => rfl⟩
def refY (n b0 b1 b2 b3 L H y32 y16 y8 y1 y2 y3 : Nat) : Nat × Nat :=
  if b0 < 128 then (b0, 1)
  else if (194 ≤ b0 ∧ b0 ≤ 223) ∧ (1 < n ∧ 128 ≤ b1 ∧ b1 ≤ 191) then (y32 * 64 + y1, 2)
  else if (224 ≤ b0 ∧ b0 ≤ 239) ∧ (1 < n ∧ L ≤ b1 ∧ b1 ≤ H) ∧ (2 < n ∧ 128 ≤ b2 ∧ b2 ≤ 191) then (y16 * 4096 + y1 * 64 + y2, 3)
  else if (240 ≤ b0 ∧ b0 ≤ 244) ∧ (1 < n ∧ L ≤ b1 ∧ b1 ≤ H) ∧ (2 < n ∧ 128 ≤ b2 ∧ b2 ≤ 191) ∧ (3 < n ∧ 128 ≤ b3 ∧ b3 ≤ 191) then (y8 * 262144 + y1 * 4096 + y2 * 64 + y3, 4)
  else (65533, 1)
set_option maxHeartbeats 4000000 in
set_option maxRecDepth 100000 in
theorem Rune_core (k : Nat) (s : ByteArray) (i : Nat) (hi : i < s.size) (hs : s.size ≤ 1099511627776) (b0 b1 b2 b3 L H y32 y16 y8 y1 y2 y3 : Nat)
    (e0 : Aside0 (bt s (i : Int) = (b0 : Int))) (e1 : Aside0 (bt s ((i + 1 : Nat) : Int) = (b1 : Int))) (e2 : Aside0 (bt s ((i + 2 : Nat) : Int) = (b2 : Int))) (e3 : Aside0 (bt s ((i + 3 : Nat) : Int) = (b3 : Int)))
    (f1 : ∀ lo hi : Int, cachepotref1_follows.f s ((i + 1 : Nat) : Int) lo hi = some (decide (i + 1 < s.size ∧ lo ≤ (b1 : Int) ∧ (b1 : Int) ≤ hi)))
    (f2 : ∀ lo hi : Int, cachepotref1_follows.f s ((i + 2 : Nat) : Int) lo hi = some (decide (i + 2 < s.size ∧ lo ≤ (b2 : Int) ∧ (b2 : Int) ≤ hi)))
    (f3 : ∀ lo hi : Int, cachepotref1_follows.f s ((i + 3 : Nat) : Int) lo hi = some (decide (i + 3 < s.size ∧ lo ≤ (b3 : Int) ∧ (b3 : Int) ≤ hi)))
    (hj0 : Aside0 (224 ≤ b0 → cachepotref1_Rune.j0 (k + 3) s (i : Int) (b0 : Int) = cachepotref1_Rune.j1 (k + 2) s (i : Int) (b0 : Int) (L : Int) (H : Int)))
    (hj0' : Aside0 (b0 < 224 → cachepotref1_Rune.j0 (k + 3) s (i : Int) (b0 : Int) = cachepotref1_Rune.j1 (k + 2) s (i : Int) (b0 : Int) 128 191))
    (a31 : Aside0 (Go.bits .and .u8 (b0 : Int) 31 = (y32 : Int))) (a15 : Aside0 (Go.bits .and .u8 (b0 : Int) 15 = (y16 : Int))) (a7 : Aside0 (Go.bits .and .u8 (b0 : Int) 7 = (y8 : Int)))
    (m1 : Aside0 (Go.bits .and .u8 (b1 : Int) 63 = (y1 : Int))) (m2 : Aside0 (Go.bits .and .u8 (b2 : Int) 63 = (y2 : Int))) (m3 : Aside0 (Go.bits .and .u8 (b3 : Int) 63 = (y3 : Int)))
    (h0 : b0 < 256) (q0 : y32 < 32) (q1 : y16 < 16) (q2 : y8 < 8) (q3 : y1 < 64) (q4 : y2 < 64) (q5 : y3 < 64) :
    cachepotref1_Rune.f (k + 3) s (i : Int) = some (((refY (s.size - i) b0 b1 b2 b3 L H y32 y16 y8 y1 y2 y3).1 : Int), ((refY (s.size - i) b0 b1 b2 b3 L H y32 y16 y8 y1 y2 y3).2 : Int)) := by
  have w1 : Aside0 (wrap64 ((i : Int) + 1) = ((i + 1 : Nat) : Int)) := ⟨by
    have e := w64 ((i : Int) + 1) (by omega) (by omega)
    rw [e]
    rfl⟩
  have w2 : Aside0 (wrap64 ((i : Int) + 2) = ((i + 2 : Nat) : Int)) := ⟨by
    have e := w64 ((i : Int) + 2) (by omega) (by omega)
    rw [e]
    rfl⟩
  have w3 : Aside0 (wrap64 ((i : Int) + 3) = ((i + 3 : Nat) : Int)) := ⟨by
    have e := w64 ((i : Int) + 3) (by omega) (by omega)
    rw [e]
    rfl⟩
  unfold cachepotref1_Rune.f
  rw [if_pos (by omega), if_pos (by omega), e0.out]
  by_cases c0 : b0 < 128
  · rw [if_pos (by omega), w64 (b0 : Int) (by omega) (by omega), refY, if_pos c0]
    rfl
  rw [if_neg (by omega)]
  -- a lead byte of three or four, or none
  have hno : ∀ x l h : Int, b0 < 240 → cachepotref1_Rune.j2 (k + 1) s x (b0 : Int) l h false = some (65533, 1) := by
    intro x l h hb
    rw [cachepotref1_Rune.j2, if_neg (by simp), if_neg (by omega)]
  have hj : ¬ ((194 ≤ b0 ∧ b0 ≤ 223) ∧ (1 < s.size - i ∧ 128 ≤ b1 ∧ b1 ≤ 191)) → cachepotref1_Rune.j0 (k + 3) s (i : Int) (b0 : Int) = some (((refY (s.size - i) b0 b1 b2 b3 L H y32 y16 y8 y1 y2 y3).1 : Int), ((refY (s.size - i) b0 b1 b2 b3 L H y32 y16 y8 y1 y2 y3).2 : Int)) := by
    intro c1
    rw [refY, if_neg c0, if_neg c1]
    by_cases x0 : b0 < 224
    · rw [hj0'.out x0, cachepotref1_Rune.j1, if_neg (by omega), hno _ _ _ (by omega), if_neg (by omega), if_neg (by omega)]
      rfl
    rw [hj0.out (by omega), cachepotref1_Rune.j1, if_pos (by omega)]
    by_cases x1 : b0 ≤ 239
    · rw [if_pos (by omega), w1.out, f1, w2.out]
      simp only [Option.bind_some, decide_eq_true_eq]
      by_cases z1 : i + 1 < s.size ∧ ((L : Int) ≤ (b1 : Int) ∧ (b1 : Int) ≤ (H : Int))
      · rw [if_pos z1, f2]
        simp only [Option.bind_some]
        by_cases z2 : i + 2 < s.size ∧ ((128 : Int) ≤ (b2 : Int) ∧ (b2 : Int) ≤ 191)
        · rw [decide_eq_true z2, cachepotref1_Rune.j2, if_pos rfl, w1.out, w2.out, if_pos (by omega), if_pos (by omega), if_pos (by omega), if_pos (by omega), e1.out, e2.out, a15.out, m1.out, m2.out, if_pos (by omega)]
          simp (disch := omega) only [w64]
          simp only [Option.some.injEq, Prod.mk.injEq]
          omega
        · rw [decide_eq_false z2, hno _ _ _ (by omega), if_neg (by omega), if_neg (by omega)]
          rfl
      · rw [if_neg z1, hno _ _ _ (by omega), if_neg (by omega), if_neg (by omega)]
        rfl
    · rw [if_neg (by omega), cachepotref1_Rune.j2, if_neg (by simp), if_pos (by omega), if_neg (show ¬ ((224 ≤ b0 ∧ b0 ≤ 239) ∧ _) from fun h => x1 h.1.2)]
      by_cases x2 : b0 ≤ 244
      · rw [if_pos (by omega), w1.out, f1]
        simp only [Option.bind_some, decide_eq_true_eq]
        by_cases z1 : i + 1 < s.size ∧ ((L : Int) ≤ (b1 : Int) ∧ (b1 : Int) ≤ (H : Int))
        · rw [if_pos z1, w2.out, f2]
          simp only [Option.bind_some, decide_eq_true_eq]
          by_cases z2 : i + 2 < s.size ∧ ((128 : Int) ≤ (b2 : Int) ∧ (b2 : Int) ≤ 191)
          · rw [if_pos z2, w3.out, f3]
            simp only [Option.bind_some, decide_eq_true_eq]
            by_cases z3 : i + 3 < s.size ∧ ((128 : Int) ≤ (b3 : Int) ∧ (b3 : Int) ≤ 191)
            · rw [if_pos z3, if_pos (by omega), if_pos (by omega), if_pos (by omega), if_pos (by omega), if_pos (by omega), if_pos (by omega), e1.out, e2.out, e3.out, a7.out, m1.out, m2.out, m3.out, if_pos (by omega)]
              simp (disch := omega) only [w64]
              simp only [Option.some.injEq, Prod.mk.injEq]
              omega
            · rw [if_neg z3, if_neg (by omega)]; rfl
          · rw [if_neg z2, if_neg (by omega)]; rfl
        · rw [if_neg z1, if_neg (by omega)]; rfl
      · rw [if_neg (by omega), if_neg (by omega)]; rfl
  by_cases c1 : (194 ≤ b0 ∧ b0 ≤ 223) ∧ (1 < s.size - i ∧ 128 ≤ b1 ∧ b1 ≤ 191)
  · rw [if_pos (by omega), if_pos (by omega), w1.out, f1]
    simp only [Option.bind_some, decide_eq_true_eq]
    rw [if_pos (by omega), if_pos (by omega), if_pos (by omega), e1.out, a31.out, m1.out, refY, if_neg c0, if_pos c1]
    simp (disch := omega) only [w64]
    simp only [Option.some.injEq, Prod.mk.injEq]
    omega
  · have hj' := hj c1
    by_cases x1 : 194 ≤ b0
    · rw [if_pos (by omega)]
      by_cases x2 : b0 ≤ 223
      · rw [if_pos (by omega), w1.out, f1]
        simp only [Option.bind_some, decide_eq_true_eq]
        rw [if_neg (by omega)]
        exact hj'
      · rw [if_neg (by omega)]; exact hj'
    · rw [if_neg (by omega)]; exact hj'
theorem Rune_f (k : Nat) (s : ByteArray) (i : Nat) (hi : i < s.size) (hs : s.size ≤ 1099511627776) :
    cachepotref1_Rune.f (k + 3) s (i : Int) = some (((Utf8.decode s i).1 : Int), ((Utf8.decode s i).2 : Int)) := by
  obtain ⟨L, H, hL, hH, hj0, hj0'⟩ := Rune_j0 (k + 2) s (i : Int) (s.get! i).toNat
  rw [Lib.decode_at, ← refN_eq _ _ _ _ _ L H (s.get! i).toNat_lt (s.get! (i + 1)).toNat_lt (s.get! (i + 2)).toNat_lt (s.get! (i + 3)).toNat_lt hL hH]
  exact Rune_core k s i hi hs _ _ _ _ L H _ _ _ _ _ _ ⟨by rw [bt_get]; rfl⟩ ⟨by rw [bt_get]; rfl⟩ ⟨by rw [bt_get]; rfl⟩ ⟨by rw [bt_get]; rfl⟩
    (follows_f s (i + 1)) (follows_f s (i + 2)) (follows_f s (i + 3)) ⟨hj0⟩ ⟨hj0'⟩ ⟨and31 ⟨_, (s.get! i).toNat_lt⟩⟩ ⟨and15 ⟨_, (s.get! i).toNat_lt⟩⟩ ⟨and7 ⟨_, (s.get! i).toNat_lt⟩⟩
    ⟨and63 ⟨_, (s.get! (i + 1)).toNat_lt⟩⟩ ⟨and63 ⟨_, (s.get! (i + 2)).toNat_lt⟩⟩ ⟨and63 ⟨_, (s.get! (i + 3)).toNat_lt⟩⟩ (s.get! i).toNat_lt
    (Nat.mod_lt _ (by decide)) (Nat.mod_lt _ (by decide)) (Nat.mod_lt _ (by decide)) (Nat.mod_lt _ (by decide)) (Nat.mod_lt _ (by decide)) (Nat.mod_lt _ (by decide))
theorem runes_l0 (s : ByteArray) (hs : s.size ≤ 1099511627776) : ∀ (d k i : Nat) (x y : List Int), s.size - i = d → i ≤ s.size → d + 3 < k → x.length ≤ i → y.length ≤ i → ∃ r, cachepotref1_Runes.l0 k s x y (i : Int) = some r ∧ r.1.length ≤ s.size := by
  intro d
  induction d using Nat.strongRecOn with
  | ind d ih =>
    intro k i x y hd hi hk hx hy
    obtain ⟨k, rfl⟩ : ∃ m, k = m + 3 + 1 := ⟨k - 4, by omega⟩
    simp only [cachepotref1_Runes.l0]
    by_cases h : i < s.size
    · have hp : 0 < (Utf8.decode s i).2 ∧ i + (Utf8.decode s i).2 ≤ s.size := ⟨Wd.width_pos s i, Wd.width_le s i h⟩
      rw [if_pos (by omega), Rune_f k s i h hs]
      simp only [Option.bind_some]
      rw [if_pos (by omega), if_pos (by omega), w64 _ (by omega) (by omega)]
      have e : (i : Int) + ((Utf8.decode s i).2 : Int) = ((i + (Utf8.decode s i).2 : Nat) : Int) := by omega
      rw [e]
      exact ih (s.size - (i + (Utf8.decode s i).2)) (by omega) (k + 3) (i + (Utf8.decode s i).2) _ _ rfl hp.2 (by omega) (by simp; omega) (by simp; omega)
    · rw [if_neg (by omega)]
      exact ⟨_, rfl, by show x.length ≤ _; omega⟩
theorem runes_f (s : ByteArray) (hs : s.size ≤ 1099511627776) (k : Nat) (hk : s.size + 3 < k) : ∃ r, cachepotref1_Runes.f k s = some r ∧ r.1.length ≤ s.size :=
  runes_l0 s hs s.size k 0 [] [] (by omega) (by omega) hk (by simp) (by simp)
theorem common_l0 (x y : List Int) (hb : x.length ≤ 1099511627776) : ∀ (d k i : Nat), x.length - i = d → i ≤ x.length → i ≤ y.length → d < k → ∃ r : Nat, cachepotref1_KeyCommon.l0 k x y (i : Int) = some (r : Int) ∧ r ≤ x.length ∧ r ≤ y.length := by
  intro d
  induction d with
  | zero =>
    intro k i hd hi hy hk
    obtain ⟨k, rfl⟩ : ∃ m, k = m + 1 := ⟨k - 1, by omega⟩
    simp only [cachepotref1_KeyCommon.l0]
    rw [if_neg (by omega)]
    exact ⟨i, rfl, hi, hy⟩
  | succ d ih =>
    intro k i hd hi hy hk
    obtain ⟨k, rfl⟩ : ∃ m, k = m + 1 := ⟨k - 1, by omega⟩
    simp only [cachepotref1_KeyCommon.l0]
    rw [if_pos (by omega)]
    by_cases h : i < y.length
    · rw [if_pos (by omega), if_pos (by omega), w64 _ (by omega) (by omega)]
      split
      · exact ih k (i + 1) (by omega) (by omega) (by omega) (by omega)
      · exact ⟨i, rfl, hi, hy⟩
    · rw [if_neg (by omega)]
      exact ⟨i, rfl, hi, hy⟩
theorem cmp_f (a b : ByteArray) (ha : a.size ≤ 1099511627776) (hb : b.size ≤ 1099511627776) (k : Nat) (hk : a.size + b.size + 10 ≤ k) : ∃ r, cachepotref1_KeyCmp.f k a b = some r := by
  obtain ⟨x, hx, hxl⟩ := runes_f a ha k (by omega)
  obtain ⟨y, hy, _⟩ := runes_f b hb k (by omega)
  obtain ⟨n, hn, h1, h2⟩ := common_l0 x.1 y.1 (by omega) x.1.length k 0 (by omega) (by omega) (by omega) (by omega)
  have hc : cachepotref1_KeyCommon.f k a b = some (n : Int) := by
    unfold cachepotref1_KeyCommon.f
    rw [hx, hy]
    exact hn
  unfold cachepotref1_KeyCmp.f
  rw [hx, hy, hc]
  simp only [Option.bind_some]
  obtain ⟨k, rfl⟩ : ∃ m, k = m + 1 := ⟨k - 1, by omega⟩
  split
  · rename_i h
    simp only [cachepotref1_KeyCmp.j0]
    split
    · exact ⟨_, rfl⟩
    · first | exact ⟨_, rfl⟩ | (rw [if_pos h]; exact ⟨_, rfl⟩)
  · rename_i h
    simp only [cachepotref1_KeyCmp.j0]
    rw [if_neg (by decide), if_neg h]
    split
    · exact ⟨_, rfl⟩
    · rename_i h'
      rw [if_pos (by omega), if_pos (by omega), if_pos (by omega)]
      split <;> exact ⟨_, rfl⟩
/-- does a text stand ahead of another? -/
def aheadB (a b : ByteArray) : Bool := (cachepotref1_Ahead.f (a.size + b.size + 10) a b).getD false
theorem ahead_f (a b : ByteArray) (ha : a.size ≤ 1099511627776) (hb : b.size ≤ 1099511627776) : cachepotref1_Ahead.f (a.size + b.size + 10) a b = some (aheadB a b) := by
  have h : ∃ r, cachepotref1_Ahead.f (a.size + b.size + 10) a b = some r := by
    obtain ⟨r, hr⟩ := cmp_f a b ha hb _ (Nat.le_refl _)
    unfold cachepotref1_Ahead.f
    rw [hr]
    simp only [Option.bind_some]
    repeat' split
    all_goals exact ⟨_, rfl⟩
  obtain ⟨r, hr⟩ := h
  unfold aheadB
  rw [hr]
  rfl
end Go.Proofs.YtfaelejeihmgcaaDoor.Lgx.Rn
end

section
namespace Go.Proofs.YtfaelejeihmgcaaDoor.Lgx
open Go.RowKit Go.Proofs.YtfaelejeihmgcaaDoorW.PrintWords Go.Proofs.YtfaelejeihmgcaaDoorW.PrintLast
open Rn (aheadB ahead_f)
/-- how many stand ahead -/
def placeF (key : ByteArray) (rest : List S98) : Nat := (rest.takeWhile fun y => aheadB y.f0 key).length
def insF (seq : Int) (x : S101) (rest : List S98) : List S98 := rest.take (placeF x.f0 rest) ++ [⟨x.f0, true, x.f2, seq⟩] ++ rest.drop (placeF x.f0 rest)
def commit1 (seq : Int) (x : S101) (L : List S98) : List S98 := if x.f1 = true then withoutF x.f0 L else insF seq x (withoutF x.f0 L)
def commitF (seq : Int) : List S101 → List S98 → List S98
  | [], L => L
  | x :: l, L => commitF seq l (commit1 seq x L)
theorem commitF_snoc (seq : Int) (l : List S101) (x : S101) : ∀ L, commitF seq (l ++ [x]) L = commit1 seq x (commitF seq l L) := by
  induction l with
  | nil => intro L; rfl
  | cons y l ih => intro L; exact ih _
theorem placeF_le (key : ByteArray) (rest : List S98) : placeF key rest ≤ rest.length := (List.takeWhile_sublist _).length_le
theorem insF_len (seq : Int) (x : S101) (rest : List S98) : (insF seq x rest).length = rest.length + 1 := by
  have := placeF_le x.f0 rest
  simp [insF]
  omega
theorem commit1_len (seq : Int) (x : S101) (L : List S98) : (commit1 seq x L).length ≤ L.length + 1 := by
  have := withoutF_len x.f0 L
  unfold commit1
  split
  · omega
  · rw [insF_len]; omega
theorem commitF_len (seq : Int) (l : List S101) : ∀ L : List S98, (commitF seq l L).length ≤ L.length + l.length := by
  induction l with
  | nil => intro L; exact Nat.le_refl _
  | cons x l ih => intro L; have := ih (commit1 seq x L); have := commit1_len seq x L; simp [commitF]; omega
/-- the place, as_ the loop finds it -/
theorem place_go (key : ByteArray) : ∀ (rest : List S98) (j : Nat), (∀ i (h : i < rest.length), i < j → aheadB rest[i].f0 key = true) → j ≤ rest.length → (j = rest.length ∨ ∃ h : j < rest.length, aheadB rest[j].f0 key = false) → placeF key rest = j
  | [], j, _, hj, _ => by
    have : j = 0 := by simpa using hj
    subst this
    rfl
  | y :: rest, 0, _, _, h => by
    rcases h with h | ⟨_, h⟩
    · simp at h
    · simp only [List.getElem_cons_zero] at h
      simp [placeF, h]
  | y :: rest, j + 1, ha, hj, h => by
    have h0 := ha 0 (by simp) (by omega)
    simp only [List.getElem_cons_zero] at h0
    have ih := place_go key rest j (fun i hi hij => by have := ha (i + 1) (by simp; omega) (by omega); simpa using this) (by simpa using hj) (by
      rcases h with h | ⟨h1, h2⟩
      · left; simpa using h
      · right; exact ⟨by simpa using h1, by simpa using h2⟩)
    unfold placeF at ih ⊢
    rw [List.takeWhile_cons, h0]
    simp [ih]
/-- every key is short -/
def Short98 (L : List S98) : Prop := ∀ y ∈ L, y.f0.size ≤ 1099511627776
theorem short_without {key : ByteArray} {L : List S98} (h : Short98 L) : Short98 (withoutF key L) := fun y hy => h y (List.mem_filter.1 hy).1
theorem short_commit1 {seq : Int} {x : S101} {L : List S98} (h : Short98 L) (hx : x.f0.size ≤ 1099511627776) : Short98 (commit1 seq x L) := by
  unfold commit1
  split
  · exact short_without h
  · intro y hy
    unfold insF at hy
    rw [List.mem_append, List.mem_append, List.mem_singleton] at hy
    rcases hy with (hy | hy) | hy
    · exact short_without h y (List.mem_of_mem_take hy)
    · subst hy; exact hx
    · exact short_without h y (List.mem_of_mem_drop hy)
theorem short_commitF {seq : Int} (l : List S101) (hx : ∀ x ∈ l, x.f0.size ≤ 1099511627776) : ∀ {L : List S98}, Short98 L → Short98 (commitF seq l L) := by
  induction l with
  | nil => intro L h; exact h
  | cons x l ih => intro L h; exact ih (fun y hy => hx y (by simp [hy])) (short_commit1 h (hx x (by simp)))
theorem rd101o {l : List S101} {k : Nat} (h : k < l.length) : rd_T101 l (k : Int) = l[k] := by
  unfold rd_T101
  rw [List.getD_eq_getElem?_getD, Int.toNat_natCast, List.getElem?_eq_getElem h]
  rfl
theorem sz_of {w W : World} (h : Below w.heap.size w W) : w.heap.size ≤ W.heap.size := h.size
theorem le48 {j n : Nat} (hj : j ≤ n) (hn : n ≤ 1048576) : (([] : List S98).length + j) * 48 ≤ 140737488355328 := by
  simp only [List.length_nil]
  omega
theorem le48b {j n m : Nat} (he : m = j) (hj : j ≤ n) (hn : n ≤ 1048576) : (m + 1) * 48 ≤ 140737488355328 := by omega
theorem le48c {j n : Nat} {l : List S98} {x : S98} (he : l.length = j) (hj : j ≤ n) (hn : n ≤ 1048576) : ((l ++ [x]).length + (n - j)) * 48 ≤ 140737488355328 := by
  rw [List.length_append, List.length_singleton]
  omega
theorem len_b {l : List S98} {x : S98} {j : Nat} (h : l.length = j) : (l ++ [x]).length = j + 1 := by rw [List.length_append, h, List.length_singleton]
theorem len_c {R : List S98} {x : S98} {j : Nat} (h : (R.take j).length = j) (hj : j ≤ R.length) : (R.take j ++ [x] ++ R.drop j).length = R.length + 1 := by
  rw [List.length_append, List.length_append, h, List.length_singleton, List.length_drop]
  omega
theorem lit_reads {W w5 : World} {g : Nat} (x : S98) (h : W.heap[g]? = some (box98 x)) : ReadsRow (k98.K w5) 4 W (some ⟨g, 0, none⟩) 1 [x] := by
  refine ⟨rfl, by decide, fun _ => ⟨_, rfl, fun j p hj => ?_⟩⟩
  match j, hj with
  | 0, hj =>
    simp only [List.getElem?_cons_zero, Option.some.injEq] at hj
    subst hj
    refine ⟨[.string x.f0, .bool x.f1, .string x.f2, .int .u32 x.f3], rfl, k98_mk _ _, fun i u hu => ?_⟩
    rw [Addr.add_mid, Nat.zero_mul, Nat.zero_add, Nat.zero_add, Lib.cell_of_heap h i]
    simpa using hu
theorem new_lt (w5 : World) (o : Obj) : w5.heap.size < ((w5.alloc o).drew).heap.size := by
  show w5.heap.size < (w5.alloc o).heap.size
  simp
theorem nil_own {g : Nat} : some g ≠ (Value.slice none 0 0).ownBlock := by simp [Value.ownBlock]
theorem slice_head (A : Option Addr) (n c j : Nat) (hj : j ≤ n) (hc : n ≤ c) (W : World) : (Instr.slice 41 (.slice A n c) none (some (.int .i64 (j : Int))) none).run Tryd.prog W = .ok (.slice A j c) W := by
  rw [run_slice_h W 41 A n c (by kernel_rfl) .i64 (j : Int) (by omega) (by omega)]
  go_simp
theorem slice_tail (A : Option Addr) (n c j : Nat) (hj : j ≤ n) (W : World) : (Instr.slice 41 (.slice A n c) (some (.int .i64 (j : Int))) none none).run Tryd.prog W = .ok (.slice (if c = j then A else A.map (·.add (j * 4))) (n - j) (c - j)) W := by
  rw [run_slice_l W 41 A n c (by kernel_rfl) .i64 (j : Int) (by omega) (by omega)]
  go_simp
set_option maxHeartbeats 16000000 in
set_option maxRecDepth 100000 in
theorem ref_Commit (B b : Nat) (v : Value) (L : List S98) (seq : Int) (A : Option Addr) (c : Nat) (l : List S101) (w : World) (h : RefIs w B b v L) (hr : ∀ W, w.grownBy W (some b) → Kd.C k101 W A l.length l)
    (hL : L.length + l.length ≤ 1048576) (hsL : Short98 L) (hsl : ∀ x ∈ l, x.f0.size ≤ 1099511627776) :
    Calls Tryd.prog 70 #[.pointer (some ⟨b, 0, none⟩), .int .u32 seq, .slice A l.length c] w fun e w' => e = .returned (.tuple #[]) ∧ ∃ v', RefIs w' B b v' (commitF seq l L) ∧ w.grownBy w' (some b) := by
  go_enter Tryd.func70, Tryd.ntmps70
  go_wp2
  go_loopw [6] (fun i wr => ∃ (k : Nat) (v1 : Value), k ≤ l.length ∧ i = .int .i64 k ∧ RefIs wr B b v1 (commitF seq (l.take k) L) ∧ w.grownBy wr (some b)) (fun i _ => l.length - (intOf i).toNat)
  case atStart => exact ⟨0, v, Nat.zero_le _, rfl, h, World.grownBy.refl _ _⟩
  case round =>
    obtain ⟨k, v1, hkl, rfl, hI, hg⟩ := hrel
    by_cases hlt : k < l.length
    · obtain ⟨ad, e, x0, x1, x2⟩ := at_T101 (hr _ hg) k (by omega) (by omega)
      cases e
      rw [rd101o hlt] at x0 x1 x2
      have hsx := hsl _ (List.getElem_mem hlt)
      have hsn := commitF_snoc seq (l.take k) l[k] L
      rw [← List.take_succ_eq_append_getElem hlt] at hsn
      have zz1 : ∀ W, w.grownBy W (some b) → W.cell? (ad.add (k * 3)) = some (.string l[k].f0) ∧ W.cell? ⟨(ad.add (k * 3)).block, (ad.add (k * 3)).off + 2, none⟩ = some (.string l[k].f2) := fun W hW => by
        obtain ⟨ad', e', h0, _, h2⟩ := at_T101 (hr W hW) k (by omega) (by omega)
        obtain rfl : ad = ad' := by injection e'
        rw [rd101o hlt] at h0 h2
        exact ⟨h0, h2⟩
      obtain ⟨x, hx⟩ : ∃ x, x = l[k] := ⟨_, rfl⟩
      rw [← hx] at x0 x1 x2 hsx hsn zz1
      clear hx
      simp only [Int.toNat_natCast] at x0 x1 x2
      have hlen : (commitF seq (l.take k) L).length ≤ 1048576 := by
        have h1 := commitF_len seq (l.take k) L
        have h2 := List.length_take_le k l
        omega
      have hsM : Short98 (commitF seq (l.take k) L) := short_commitF _ (fun y hy => hsl y (List.mem_of_mem_take hy)) hsL
      have cb := hI.cell0
      obtain ⟨Av, cv, ev⟩ := Kd.R_slice hI.row
      subst ev
      have hCv := (Kd.R_reads' hI.row).2.2
      obtain ⟨xk, xd, xv⟩ := x
      have zz2 : ∀ W, w.grownBy W (some b) → W.cell? (ad.add (k * 3)) = some (.string xk) ∧ W.cell? ⟨(ad.add (k * 3)).block, (ad.add (k * 3)).off + 2, none⟩ = some (.string xv) := zz1
      clear zz1
      obtain ⟨M, hM⟩ : ∃ M, M = commitF seq (l.take k) L := ⟨_, rfl⟩
      rw [← hM] at hsn hlen hsM hCv hI cb
      clear hM
      go_wp2_with fail
      refine (ref_without b Av cv M xk wr cb hCv hlen).mono ?_
      rintro e w2 ⟨v2, rfl, hR2, hb2⟩
      have hI2 := hI.below hb2
      have f2 := hI2.free
      have cb2 := hI2.cell0
      have x1' := (hb2.cell (World.block_lt_of_cell? wr _ x1)).trans x1
      obtain ⟨A2, c2, ev2⟩ := Kd.R_slice hR2
      subst ev2
      cases xd
      · have hc1 : commit1 seq ⟨xk, false, xv⟩ M = insF seq ⟨xk, false, xv⟩ (withoutF xk M) := by simp [commit1]
        rw [hc1] at hsn
        have hRl := Nat.le_trans (withoutF_len xk M) hlen
        have hsR := short_without (key := xk) hsM
        have x0' := (hb2.cell (World.block_lt_of_cell? wr _ x0)).trans x0
        have x2' := (hb2.cell (World.block_lt_of_cell? wr _ x2)).trans x2
        clear hc1 x0 x1 x2
        generalize withoutF xk M = R at hR2 hsn hRl hsR ⊢
        have Hsn := Lib.hid hsn
        clear hsn
        obtain ⟨_, hc2, hC2⟩ := Kd.R_reads' hR2
        go_wp2
        obtain ⟨wo, rfl⟩ : ∃ wo : World, wo = wr := ⟨_, rfl⟩
        go_loopw [8] (fun i wi => ∃ j : Nat, j ≤ R.length ∧ i = .int .i64 j ∧ Hid (∀ i (h : i < R.length), i < j → aheadB R[i].f0 xk = true) ∧ Below w2.heap.size w2 wi) (fun i _ => R.length - (intOf i).toNat)
        case atStart => exact ⟨0, Nat.zero_le _, rfl, Lib.hid (fun i _ hi => absurd hi (Nat.not_lt_zero _)), Below.refl _ _⟩
        case round =>
          obtain ⟨j, hjl, rfl, Hah, hbi⟩ := hrel
          have x0w := (hbi.cell (World.block_lt_of_cell? w2 _ x0')).trans x0'
          have x2w := (hbi.cell (World.block_lt_of_cell? w2 _ x2')).trans x2'
          by_cases hlj : j < R.length
          · have hCi := Kd.C_below hC2 hbi
            obtain ⟨adv, e, y0, y1, y2, y3⟩ := at_T98 hCi j (by omega) (by omega)
            cases e
            rw [rd98 hlj] at y0 y1 y2 y3
            simp only [Int.toNat_natCast] at y0 y1 y2 y3
            have hcall := fun W => cachepotref1_Ahead.calls (R[j].f0.size + xk.size + 10) R[j].f0 xk _ W (ahead_f R[j].f0 xk (hsR _ (List.getElem_mem hlj)) hsx)
            obtain ⟨bo, hbo⟩ : ∃ bo, bo = aheadB R[j].f0 xk := ⟨_, rfl⟩
            rw [← hbo] at hcall
            have Hbo := Lib.hid hbo
            clear hbo
            have d1 : decide (j < R.length) = true := decide_eq_true hlj
            have d2 : decide ((j : Int) < (R.length : Int)) = true := decide_eq_true (by omega)
            cases bo
            · go_wp2
              go_still_tail 15, (by kernel_rfl)
              change wpList _ _ _ _ _ wr.drew
              go_wp2_with fail
              refine (hcall _).mono ?_
              rintro e w5 ⟨rfl, hb5⟩
              have hbx : Below w2.heap.size w2 w5 := below_then (below_drew hbi) (below_drew hbi).size hb5
              have hpl : placeF xk R = j := place_go xk R j Hah.out hjl (.inr ⟨hlj, Hbo.out.symm⟩)
              clear hcall Hbo y0 y1 y2 y3 d1 d2 Hah hCi
              go_wp2
              have hCx := Kd.C_below hC2 hbx
              have x0x := (hbx.cell (World.block_lt_of_cell? w2 _ x0')).trans x0'
              have x2x := (hbx.cell (World.block_lt_of_cell? w2 _ x2')).trans x2'
              have Hpl := Lib.hid hpl
              clear hpl
              have hs1 := slice_head (some adv) R.length c2 j hjl hc2
              have hs2 := slice_tail (some adv) R.length c2 j hjl
              have hjt : (R.take j).length = j := by rw [List.length_take]; omega
              have hT1 : ∀ W, Below w5.heap.size w5 W → ReadsRow (k98.K w5) 4 W (some adv) j (R.take j) := fun W hW => by
                have h := Kd.C_below (Kd.C_take hCx hjl) hW
                rw [hjt] at h
                exact h.imp_ (Below.refl _ _) (fun x cs hK => by obtain rfl := k98_open hK; exact k98_mk _ _)
              have hT2 : ∀ W, Below w5.heap.size w5 W → ReadsRow (k98.K w5) 4 W (if c2 = j then (some adv) else (some adv).map (·.add (j * 4))) (R.length - j) (R.drop j) := fun W hW => by
                have h := Kd.C_below (Kd.C_drop hCx hjl hc2) hW
                rw [List.length_drop] at h
                exact h.imp_ (Below.refl _ _) (fun x cs hK => by obtain rfl := k98_open hK; exact k98_mk _ _)
              have hKM : ∀ (W : World) (x : S98) (cs : List Value), k98.K w5 x cs → k98.M W w5.heap.size (fun _ => False) x cs := fun W x cs hK => by rw [k98_open hK]; exact k98_mkM _ _ _ _
              have hI5 := hI2.below hbx
              have cb5 := hI5.cell0
              have f5 := hI5.free
              have hgx := hg.trans (World.grownBy.trans (grown_of_below hb2 (some b)) (grown_of_below hbx (some b)))
              have zz : ∀ W, Below w5.heap.size w5 W → W.cell? (ad.add (k * 3)) = some (.string xk) ∧ W.cell? ⟨(ad.add (k * 3)).block, (ad.add (k * 3)).off + 2, none⟩ = some (.string xv) := fun W hW => zz2 W (hgx.trans (grown_of_below hW _))
              have Hjt := Lib.hid hjt
              clear hjt
              go_region_held3 (fun W => W.cell? (ad.add (k * 3)) = some (.string xk) ∧ W.cell? ⟨(ad.add (k * 3)).block, (ad.add (k * 3)).off + 2, none⟩ = some (.string xv) ) (first | exact zz _ (by first | assumption | exact Below.refl _ _ | exact below_drew (Below.refl _ _) | exact below_drew (by assumption) | exact below_drew (below_alloc (Below.refl _ _) _) | exact below_alloc (below_drew (Below.refl _ _)) _ | exact below_alloc (by assumption) _) | exact zz2 _ (hgx.trans (grown_put (by assumption) _)))
                (first
                  | (refine Kd.R_append_rows_step k98 (Rr := k98.K w5) (w0 := w5) w5.heap.size (by rfl) (.const (.slice none 0 0)) (.tmp 53) 41 98 (.agg #[(.string ⟨#[]⟩), (.bool false), (.string ⟨#[]⟩), (.int .u32 0)]) 48 (by rfl) Tryd.underlying41 info98 rfl (by decide) (by decide) (.slice none 0 0) [] (R.take j) (some adv) j c2 (fun _ => True) (fun _ => False) (by rfl) (by rfl) (Kd.R_nil _ _ _ _ _) (hT1 _ (by first | assumption | exact Below.refl _ _ | exact below_drew (Below.refl _ _) | exact below_drew (by assumption) | exact below_drew (below_alloc (Below.refl _ _) _) | exact below_alloc (below_drew (Below.refl _ _)) _)) (hKM _) (fun _ h => h.elim) (fun _ _ => trivial) (by first | assumption | exact Below.refl _ _ | exact below_drew (Below.refl _ _) | exact below_drew (by assumption) | exact below_drew (below_alloc (Below.refl _ _) _) | exact below_alloc (below_drew (Below.refl _ _)) _) (sz_of (by first | assumption | exact Below.refl _ _ | exact below_drew (Below.refl _ _) | exact below_drew (by assumption) | exact below_drew (below_alloc (Below.refl _ _) _) | exact below_alloc (below_drew (Below.refl _ _)) _)) (le48 hjl hRl) ?_; intro vA wA hRA hbA hgA _; rw [List.nil_append] at hRA; obtain ⟨AA, cA, eA⟩ := Kd.R_slice hRA; rw [Hjt.out] at eA; subst eA)
                  | (refine Kd.R_append_step k98 (w0 := w5) w5.heap.size ?_ (.tmp 54) (.tmp 67) 41 98 (.agg #[(.string ⟨#[]⟩), (.bool false), (.string ⟨#[]⟩), (.int .u32 0)]) 48 ?_ Tryd.underlying41 info98 rfl ?_ ?_ _ (R.take j) ⟨xk, true, xv, seq⟩ [.string xk, .bool true, .string xv, .int .u32 seq] (fun _ => True) (fun _ => False) ?_ ?_ (k98_mkM _ _ _ ⟨xk, true, xv, seq⟩) (fun _ hk => hk.elim) (fun _ _ => trivial) hRA hbA hbA.size (le48b Hjt.out hjl hRl) ?_; (rfl); (rfl); (decide); (decide); (rfl); (first | rfl | (go_simp; done) | (go_simp; rfl)); intro vB wB hRB hbB _ _; obtain ⟨AB, cB, eB⟩ := Kd.R_slice hRB; rw [len_b Hjt.out] at eB; subst eB)
                  | (refine Kd.R_append_rows_step k98 (Rr := k98.K w5) (w0 := w5) w5.heap.size ?_ (.tmp 54) (.tmp 67) 41 98 (.agg #[(.string ⟨#[]⟩), (.bool false), (.string ⟨#[]⟩), (.int .u32 0)]) 48 ?_ Tryd.underlying41 info98 rfl ?_ ?_ _ (R.take j) [⟨xk, true, xv, seq⟩] (some ⟨w5.heap.size, 0, none⟩) 1 1 (fun _ => True) (fun _ => False) ?_ ?_ hRA (lit_reads (w5 := w5) ⟨xk, true, xv, seq⟩ ((hgA.block w5.heap.size (new_lt _ _) nil_own).trans (heap_alloc_new w5 _))) (hKM _) (fun _ h => h.elim) (fun _ _ => trivial) hbA hbA.size (le48b Hjt.out hjl hRl) ?_; (rfl); (rfl); (decide); (decide); (rfl); (rfl); intro vB wB hRB hbB _ _; obtain ⟨AB, cB, eB⟩ := Kd.R_slice hRB; rw [len_b Hjt.out] at eB; subst eB)
                  | (refine Kd.R_append_rows_step k98 (Rr := k98.K w5) (w0 := w5) w5.heap.size ?_ (.tmp 68) (.tmp 71) 41 98 (.agg #[(.string ⟨#[]⟩), (.bool false), (.string ⟨#[]⟩), (.int .u32 0)]) 48 ?_ Tryd.underlying41 info98 rfl ?_ ?_ _ (R.take j ++ [⟨xk, true, xv, seq⟩]) (R.drop j) _ (R.length - j) (c2 - j) (fun _ => True) (fun _ => False) ?_ ?_ hRB (hT2 _ hbB) (hKM _) (fun _ h => h.elim) (fun _ _ => trivial) hbB hbB.size (le48c Hjt.out hjl hRl) ?_; (rfl); (rfl); (decide); (decide); (rfl); (rfl); intro vC wC hRC hbC _ _; obtain ⟨AC, cC, eC⟩ := Kd.R_slice hRC; rw [len_c Hjt.out hjl] at eC; subst eC; have cbC := (hI5.below hbC).cell0; have fC := (hI5.below hbC).free))
              all_goals (
                have hins : R.take j ++ [⟨xk, true, xv, seq⟩] ++ R.drop j = insF seq ⟨xk, false, xv⟩ R := by rw [insF, Hpl.out]
                have hI6 := hI5.put hbC hRC
                rw [hins, ← Hsn.out] at hI6
                have hg6 := hgx.trans (grown_put (b := b) hbC (.slice AC (R.length + 1) cC))
                clear hins hRC
                go_wp2
                go_roundw
                case rel => exact ⟨k + 1, _, hlt, by simp, hI6, hg6⟩
                case measure => simp [intOf]; omega)
            · go_wp2
              go_still_tail 15, (by kernel_rfl)
              change wpList _ _ _ _ _ wr.drew
              go_wp2_with fail
              refine (hcall _).mono ?_
              rintro e w5 ⟨rfl, hb5⟩
              have hbx : Below w2.heap.size w2 w5 := below_then (below_drew hbi) (below_drew hbi).size hb5
              have Hah2 : Hid (∀ i (h : i < R.length), i < j + 1 → aheadB R[i].f0 xk = true) := Lib.hid (fun i hi hij => by
                by_cases e : i = j
                · subst e; exact Hbo.out.symm
                · exact Hah.out i hi (by omega))
              clear hcall Hbo y0 y1 y2 y3 d1 d2 Hah hCi
              go_wp2
              go_roundw
              case rel => exact ⟨j + 1, hlj, by simp, Hah2, hbx⟩
              case measure => simp [intOf]; omega
          · have d1 : decide (j < R.length) = false := decide_eq_false hlj
            have d2 : decide ((j : Int) < (R.length : Int)) = false := decide_eq_false (by omega)
            have hpl : placeF xk R = j := place_go xk R j Hah.out hjl (.inl (by omega))
            clear Hah
            go_wp2
            go_quiet (fail)
            have hbx := pw_below_drewN hbi nq
            generalize wr.drewN nq = w5 at hbx ⊢
            clear d1 d2
            go_wp2
            have hCx := Kd.C_below hC2 hbx
            have x0x := (hbx.cell (World.block_lt_of_cell? w2 _ x0')).trans x0'
            have x2x := (hbx.cell (World.block_lt_of_cell? w2 _ x2')).trans x2'
            have Hpl := Lib.hid hpl
            clear hpl
            have hs1 := slice_head A2 R.length c2 j hjl hc2
            have hs2 := slice_tail A2 R.length c2 j hjl
            have hjt : (R.take j).length = j := by rw [List.length_take]; omega
            have hT1 : ∀ W, Below w5.heap.size w5 W → ReadsRow (k98.K w5) 4 W A2 j (R.take j) := fun W hW => by
              have h := Kd.C_below (Kd.C_take hCx hjl) hW
              rw [hjt] at h
              exact h.imp_ (Below.refl _ _) (fun x cs hK => by obtain rfl := k98_open hK; exact k98_mk _ _)
            have hT2 : ∀ W, Below w5.heap.size w5 W → ReadsRow (k98.K w5) 4 W (if c2 = j then A2 else A2.map (·.add (j * 4))) (R.length - j) (R.drop j) := fun W hW => by
              have h := Kd.C_below (Kd.C_drop hCx hjl hc2) hW
              rw [List.length_drop] at h
              exact h.imp_ (Below.refl _ _) (fun x cs hK => by obtain rfl := k98_open hK; exact k98_mk _ _)
            have hKM : ∀ (W : World) (x : S98) (cs : List Value), k98.K w5 x cs → k98.M W w5.heap.size (fun _ => False) x cs := fun W x cs hK => by rw [k98_open hK]; exact k98_mkM _ _ _ _
            have hI5 := hI2.below hbx
            have cb5 := hI5.cell0
            have f5 := hI5.free
            have hgx := hg.trans (World.grownBy.trans (grown_of_below hb2 (some b)) (grown_of_below hbx (some b)))
            have zz : ∀ W, Below w5.heap.size w5 W → W.cell? (ad.add (k * 3)) = some (.string xk) ∧ W.cell? ⟨(ad.add (k * 3)).block, (ad.add (k * 3)).off + 2, none⟩ = some (.string xv) := fun W hW => zz2 W (hgx.trans (grown_of_below hW _))
            have Hjt := Lib.hid hjt
            clear hjt
            go_region_held3 (fun W => W.cell? (ad.add (k * 3)) = some (.string xk) ∧ W.cell? ⟨(ad.add (k * 3)).block, (ad.add (k * 3)).off + 2, none⟩ = some (.string xv) ) (first | exact zz _ (by first | assumption | exact Below.refl _ _ | exact below_drew (Below.refl _ _) | exact below_drew (by assumption) | exact below_drew (below_alloc (Below.refl _ _) _) | exact below_alloc (below_drew (Below.refl _ _)) _ | exact below_alloc (by assumption) _) | exact zz2 _ (hgx.trans (grown_put (by assumption) _)))
              (first
                | (refine Kd.R_append_rows_step k98 (Rr := k98.K w5) (w0 := w5) w5.heap.size (by rfl) (.const (.slice none 0 0)) (.tmp 53) 41 98 (.agg #[(.string ⟨#[]⟩), (.bool false), (.string ⟨#[]⟩), (.int .u32 0)]) 48 (by rfl) Tryd.underlying41 info98 rfl (by decide) (by decide) (.slice none 0 0) [] (R.take j) A2 j c2 (fun _ => True) (fun _ => False) (by rfl) (by rfl) (Kd.R_nil _ _ _ _ _) (hT1 _ (by first | assumption | exact Below.refl _ _ | exact below_drew (Below.refl _ _) | exact below_drew (by assumption) | exact below_drew (below_alloc (Below.refl _ _) _) | exact below_alloc (below_drew (Below.refl _ _)) _)) (hKM _) (fun _ h => h.elim) (fun _ _ => trivial) (by first | assumption | exact Below.refl _ _ | exact below_drew (Below.refl _ _) | exact below_drew (by assumption) | exact below_drew (below_alloc (Below.refl _ _) _) | exact below_alloc (below_drew (Below.refl _ _)) _) (sz_of (by first | assumption | exact Below.refl _ _ | exact below_drew (Below.refl _ _) | exact below_drew (by assumption) | exact below_drew (below_alloc (Below.refl _ _) _) | exact below_alloc (below_drew (Below.refl _ _)) _)) (le48 hjl hRl) ?_; intro vA wA hRA hbA hgA _; rw [List.nil_append] at hRA; obtain ⟨AA, cA, eA⟩ := Kd.R_slice hRA; rw [Hjt.out] at eA; subst eA)
                | (refine Kd.R_append_step k98 (w0 := w5) w5.heap.size ?_ (.tmp 54) (.tmp 67) 41 98 (.agg #[(.string ⟨#[]⟩), (.bool false), (.string ⟨#[]⟩), (.int .u32 0)]) 48 ?_ Tryd.underlying41 info98 rfl ?_ ?_ _ (R.take j) ⟨xk, true, xv, seq⟩ [.string xk, .bool true, .string xv, .int .u32 seq] (fun _ => True) (fun _ => False) ?_ ?_ (k98_mkM _ _ _ ⟨xk, true, xv, seq⟩) (fun _ hk => hk.elim) (fun _ _ => trivial) hRA hbA hbA.size (le48b Hjt.out hjl hRl) ?_; (rfl); (rfl); (decide); (decide); (rfl); (first | rfl | (go_simp; done) | (go_simp; rfl)); intro vB wB hRB hbB _ _; obtain ⟨AB, cB, eB⟩ := Kd.R_slice hRB; rw [len_b Hjt.out] at eB; subst eB)
                | (refine Kd.R_append_rows_step k98 (Rr := k98.K w5) (w0 := w5) w5.heap.size ?_ (.tmp 54) (.tmp 67) 41 98 (.agg #[(.string ⟨#[]⟩), (.bool false), (.string ⟨#[]⟩), (.int .u32 0)]) 48 ?_ Tryd.underlying41 info98 rfl ?_ ?_ _ (R.take j) [⟨xk, true, xv, seq⟩] (some ⟨w5.heap.size, 0, none⟩) 1 1 (fun _ => True) (fun _ => False) ?_ ?_ hRA (lit_reads (w5 := w5) ⟨xk, true, xv, seq⟩ ((hgA.block w5.heap.size (new_lt _ _) nil_own).trans (heap_alloc_new w5 _))) (hKM _) (fun _ h => h.elim) (fun _ _ => trivial) hbA hbA.size (le48b Hjt.out hjl hRl) ?_; (rfl); (rfl); (decide); (decide); (rfl); (rfl); intro vB wB hRB hbB _ _; obtain ⟨AB, cB, eB⟩ := Kd.R_slice hRB; rw [len_b Hjt.out] at eB; subst eB)
                | (refine Kd.R_append_rows_step k98 (Rr := k98.K w5) (w0 := w5) w5.heap.size ?_ (.tmp 68) (.tmp 71) 41 98 (.agg #[(.string ⟨#[]⟩), (.bool false), (.string ⟨#[]⟩), (.int .u32 0)]) 48 ?_ Tryd.underlying41 info98 rfl ?_ ?_ _ (R.take j ++ [⟨xk, true, xv, seq⟩]) (R.drop j) _ (R.length - j) (c2 - j) (fun _ => True) (fun _ => False) ?_ ?_ hRB (hT2 _ hbB) (hKM _) (fun _ h => h.elim) (fun _ _ => trivial) hbB hbB.size (le48c Hjt.out hjl hRl) ?_; (rfl); (rfl); (decide); (decide); (rfl); (rfl); intro vC wC hRC hbC _ _; obtain ⟨AC, cC, eC⟩ := Kd.R_slice hRC; rw [len_c Hjt.out hjl] at eC; subst eC; have cbC := (hI5.below hbC).cell0; have fC := (hI5.below hbC).free))
            all_goals (
              have hins : R.take j ++ [⟨xk, true, xv, seq⟩] ++ R.drop j = insF seq ⟨xk, false, xv⟩ R := by rw [insF, Hpl.out]
              have hI6 := hI5.put hbC hRC
              rw [hins, ← Hsn.out] at hI6
              have hg6 := hgx.trans (grown_put (b := b) hbC (.slice AC (R.length + 1) cC))
              clear hins hRC
              go_wp2
              go_roundw
              case rel => exact ⟨k + 1, _, hlt, by simp, hI6, hg6⟩
              case measure => simp [intOf]; omega)
      · have hI3 := hI.put hb2 hR2
        have hg3 := hg.trans (grown_put (b := b) hb2 (.slice A2 (withoutF xk M).length c2))
        have hc1 : commit1 seq ⟨xk, true, xv⟩ M = withoutF xk M := by simp [commit1]
        rw [hc1] at hsn
        have Hsn := Lib.hid hsn
        clear hsn hc1
        go_wp2
        go_roundw
        case rel => exact ⟨k + 1, _, hlt, by simp, by rw [Hsn.out]; exact hI3, hg3⟩
        case measure => simp [intOf]; omega
    · have hke : k = l.length := by omega
      subst hke
      rw [List.take_length] at hI
      go_wp2
      go_end0
      exact ⟨rfl, v1, hI, hg⟩
end Go.Proofs.YtfaelejeihmgcaaDoor.Lgx
end

section
namespace Go.Proofs.YtfaelejeihmgcaaDoor.Lgx
open Go.RowKit Go.Proofs.YtfaelejeihmgcaaDoorW.PrintWords Go.Proofs.YtfaelejeihmgcaaDoorW.PrintLast
open Rn (aheadB ahead_f)
def placeK (key : ByteArray) (out : List ByteArray) : Nat := (out.takeWhile fun y => aheadB y key).length
def hitK (key : ByteArray) (out : List ByteArray) : Bool := match out[placeK key out]? with | some y => y.toList == key.toList | none => false
def sort1 (out : List ByteArray) (key : ByteArray) : List ByteArray := if hitK key out = true then out else out.take (placeK key out) ++ [key] ++ out.drop (placeK key out)
def sortedF (l : List ByteArray) : List ByteArray := l.foldl sort1 []
theorem sortedF_snoc (l : List ByteArray) (x : ByteArray) : sortedF (l ++ [x]) = sort1 (sortedF l) x := by simp [sortedF, List.foldl_append]
def shortK (l : List ByteArray) : Bool := decide (l.length ≤ 1048576) && l.all fun s => decide (s.size ≤ 1099511627776)
def cachepotref1_KeysSorted.f (l0 : List ByteArray) : Option (List ByteArray) := if shortK l0 = true then some (sortedF l0) else none
theorem placeK_le (key : ByteArray) (out : List ByteArray) : placeK key out ≤ out.length := (List.takeWhile_sublist _).length_le
theorem sort1_len (out : List ByteArray) (key : ByteArray) : (sort1 out key).length ≤ out.length + 1 := by
  have := placeK_le key out
  unfold sort1
  split
  · omega
  · simp; omega
theorem foldl_len : ∀ (l out : List ByteArray), (l.foldl sort1 out).length ≤ out.length + l.length
  | [], out => Nat.le_refl _
  | x :: l, out => by have := foldl_len l (sort1 out x); have := sort1_len out x; simp [List.foldl_cons]; omega
theorem sortedF_len (l : List ByteArray) : (sortedF l).length ≤ l.length := by have := foldl_len l []; simpa [sortedF] using this
theorem sort1_mem {out : List ByteArray} {key y : ByteArray} (h : y ∈ sort1 out key) : y ∈ out ∨ y = key := by
  unfold sort1 at h
  split at h
  · exact .inl h
  · rw [List.mem_append, List.mem_append, List.mem_singleton] at h
    rcases h with (h | h) | h
    · exact .inl (List.mem_of_mem_take h)
    · exact .inr h
    · exact .inl (List.mem_of_mem_drop h)
theorem foldl_mem : ∀ (l out : List ByteArray) {y : ByteArray}, y ∈ l.foldl sort1 out → y ∈ out ∨ y ∈ l
  | [], out, y, h => .inl h
  | x :: l, out, y, h => by
    rcases foldl_mem l (sort1 out x) h with h | h
    · rcases sort1_mem h with h | h
      · exact .inl h
      · exact .inr (by simp [h])
    · exact .inr (by simp [h])
theorem sortedF_mem {l : List ByteArray} {y : ByteArray} (h : y ∈ sortedF l) : y ∈ l := by
  rcases foldl_mem l [] h with h | h
  · simp at h
  · exact h
theorem placeK_go (key : ByteArray) : ∀ (out : List ByteArray) (j : Nat), (∀ i (h : i < out.length), i < j → aheadB out[i] key = true) → j ≤ out.length → (j = out.length ∨ ∃ h : j < out.length, aheadB out[j] key = false) → placeK key out = j
  | [], j, _, hj, _ => by
    have : j = 0 := by simpa using hj
    subst this
    rfl
  | y :: out, 0, _, _, h => by
    rcases h with h | ⟨_, h⟩
    · simp at h
    · simp only [List.getElem_cons_zero] at h
      simp [placeK, h]
  | y :: out, j + 1, ha, hj, h => by
    have h0 := ha 0 (by simp) (by omega)
    simp only [List.getElem_cons_zero] at h0
    have ih := placeK_go key out j (fun i hi hij => by have := ha (i + 1) (by simp; omega) (by omega); simpa using this) (by simpa using hj) (by
      rcases h with h | ⟨h1, h2⟩
      · left; simpa using h
      · right; exact ⟨by simpa using h1, by simpa using h2⟩)
    unfold placeK at ih ⊢
    rw [List.takeWhile_cons, h0]
    simp [ih]
theorem hitK_no {key : ByteArray} {out : List ByteArray} {j : Nat} (hp : placeK key out = j) (h : ¬ ∃ h : j < out.length, out[j].toList = key.toList) : hitK key out = false := by
  unfold hitK
  rw [hp]
  by_cases hj : j < out.length
  · rw [List.getElem?_eq_getElem hj]
    simp only [beq_eq_false_iff_ne]
    exact fun e => h ⟨hj, e⟩
  · rw [List.getElem?_eq_none (by omega)]
theorem hitK_yes {key : ByteArray} {out : List ByteArray} {j : Nat} (hp : placeK key out = j) (hj : j < out.length) (h : out[j].toList = key.toList) : hitK key out = true := by
  unfold hitK
  rw [hp, List.getElem?_eq_getElem hj]
  simpa using h
theorem slice_headS (A : Option Addr) (n c j : Nat) (hj : j ≤ n) (hc : n ≤ c) (W : World) : (Instr.slice 22 (.slice A n c) none (some (.int .i64 (j : Int))) none).run Tryd.prog W = .ok (.slice A j c) W := by
  rw [run_slice_h W 22 A n c (by kernel_rfl) .i64 (j : Int) (by omega) (by omega)]
  go_simp
theorem slice_tailS (A : Option Addr) (n c j : Nat) (hj : j ≤ n) (W : World) : (Instr.slice 22 (.slice A n c) (some (.int .i64 (j : Int))) none none).run Tryd.prog W = .ok (.slice (if c = j then A else A.map (·.add j)) (n - j) (c - j)) W := by
  rw [run_slice_l W 22 A n c (by kernel_rfl) .i64 (j : Int) (by omega) (by omega)]
  go_simp
theorem le16 {j n : Nat} (hj : j ≤ n) (hn : n ≤ 1048576) : (([] : List ByteArray).length + j) * 16 ≤ 140737488355328 := by
  simp only [List.length_nil]
  omega
theorem le16b {j n m : Nat} (he : m = j) (hj : j ≤ n) (hn : n ≤ 1048576) : (m + 1) * 16 ≤ 140737488355328 := by omega
theorem le16c {j n : Nat} {l : List ByteArray} {x : ByteArray} (he : l.length = j) (hj : j ≤ n) (hn : n ≤ 1048576) : ((l ++ [x]).length + (n - j)) * 16 ≤ 140737488355328 := by
  rw [List.length_append, List.length_singleton]
  omega
theorem lenS_b {l : List ByteArray} {x : ByteArray} {j : Nat} (h : l.length = j) : (l ++ [x]).length = j + 1 := by rw [List.length_append, h, List.length_singleton]
theorem lenS_c {R : List ByteArray} {x : ByteArray} {j : Nat} (h : (R.take j).length = j) (hj : j ≤ R.length) : (R.take j ++ [x] ++ R.drop j).length = R.length + 1 := by
  rw [List.length_append, List.length_append, h, List.length_singleton, List.length_drop]
  omega
theorem litS_reads {W w5 : World} {g : Nat} (x : ByteArray) (h : W.heap[g]? = some (.cells #[.string x] 9 (0, 0))) : ReadsRow (Kd.string.K w5) 1 W (some ⟨g, 0, none⟩) 1 [x] := by
  refine ⟨rfl, by decide, fun _ => ⟨_, rfl, fun j p hj => ?_⟩⟩
  match j, hj with
  | 0, hj =>
    simp only [List.getElem?_cons_zero, Option.some.injEq] at hj
    subst hj
    refine ⟨[.string x], rfl, rfl, fun i u hu => ?_⟩
    rw [Addr.add_mid, Nat.zero_mul, Nat.zero_add, Nat.zero_add, Lib.cell_of_heap h i]
    simpa using hu
set_option maxHeartbeats 16000000 in
set_option maxRecDepth 100000 in
theorem cachepotref1_KeysSorted.calls (A0 : Option Addr) (c0 : Nat) (l0 : List ByteArray) (r : List ByteArray) (w : World) (hr0 : Kd.C Kd.string w A0 l0.length l0) (hc0 : l0.length ≤ c0) (h : cachepotref1_KeysSorted.f l0 = some r) :
    Calls Tryd.prog 130 #[.slice A0 l0.length c0] w fun e w' => ∃ v0_ : Value, e = .returned (v0_) ∧ Kd.R Kd.string 9 w' w.heap.size (fun _ => True) v0_ r ∧ Below w.heap.size w w' := by
  have hsh : l0.length ≤ 1048576 ∧ ∀ s ∈ l0, s.size ≤ 1099511627776 := by
    unfold cachepotref1_KeysSorted.f at h
    split at h
    · rename_i hb
      unfold shortK at hb
      simp only [Bool.and_eq_true, decide_eq_true_eq, List.all_eq_true] at hb
      exact hb
    · cases h
  have hq : sortedF l0 = r := by
    unfold cachepotref1_KeysSorted.f at h
    split at h
    · exact Option.some.inj h
    · cases h
  obtain ⟨hlen, hss⟩ := hsh
  have HC0 := Lib.hid hc0
  have Hq := Lib.hid hq
  clear h hc0 hq
  go_enter Tryd.func130, Tryd.ntmps130
  go_wp2
  go_loopw [3, 4] (fun v1 i wr => ∃ k : Nat, k ≤ l0.length ∧ i = .int .i64 k ∧ Kd.R Kd.string 9 wr w.heap.size (fun _ => True) v1 (sortedF (l0.take k)) ∧ Below w.heap.size w wr) (fun _ i _ => l0.length - (intOf i).toNat)
  case atStart => exact ⟨0, Nat.zero_le _, rfl, Kd.R_nil _ _ _ _ _, Below.refl _ _⟩
  case round =>
    obtain ⟨k, hkl, rfl, hR, hb⟩ := hrel
    by_cases hlt : k < l0.length
    · obtain ⟨ad, e, x0⟩ := Kd.at_string hr0 k (by omega) (by omega)
      cases e
      rw [rdstr2 hlt] at x0
      have hsx := hss _ (List.getElem_mem hlt)
      have hsn := sortedF_snoc (l0.take k) l0[k]
      rw [← List.take_succ_eq_append_getElem hlt] at hsn
      obtain ⟨xk, hx⟩ : ∃ x, x = l0[k] := ⟨_, rfl⟩
      rw [← hx] at x0 hsx hsn
      clear hx
      simp only [Int.toNat_natCast] at x0
      have zz2 : ∀ W, Below w.heap.size w W → W.cell? (ad.add k) = some (.string xk) := fun W hW => (hW.cell (World.block_lt_of_cell? w _ x0)).trans x0
      have hRl : (sortedF (l0.take k)).length ≤ 1048576 := by
        have h1 := sortedF_len (l0.take k)
        have h2 := List.length_take_le k l0
        omega
      have hsR : ∀ y ∈ sortedF (l0.take k), y.size ≤ 1099511627776 := fun y hy => hss y (List.mem_of_mem_take (sortedF_mem hy))
      generalize sortedF (l0.take k) = R at hR hsn hRl hsR
      obtain ⟨A2, c2, ev2⟩ := Kd.R_slice hR
      subst ev2
      obtain ⟨_, hc2, hC2⟩ := Kd.R_reads' hR
      have Hsn := Lib.hid hsn
      clear hsn x0
      go_wp2
      obtain ⟨w2, rfl⟩ : ∃ w2 : World, w2 = wr := ⟨_, rfl⟩
      go_loopw [5] (fun i wi => ∃ j : Nat, j ≤ R.length ∧ i = .int .i64 j ∧ Hid (∀ i (h : i < R.length), i < j → aheadB R[i] xk = true) ∧ Below w2.heap.size w2 wi) (fun i _ => R.length - (intOf i).toNat)
      case atStart => exact ⟨0, Nat.zero_le _, rfl, Lib.hid (fun i _ hi => absurd hi (Nat.not_lt_zero _)), Below.refl _ _⟩
      case round =>
        obtain ⟨j, hjl, rfl, Hah, hbi⟩ := hrel
        have hbm : Below w.heap.size w wr := below_then hb hb.size hbi
        have x0w := zz2 _ hbm
        by_cases hlj : j < R.length
        · have hCi := Kd.C_below hC2 hbi
          obtain ⟨adv, e, y0⟩ := Kd.at_string hCi j (by omega) (by omega)
          cases e
          rw [rdstr2 hlj] at y0
          simp only [Int.toNat_natCast] at y0
          have hcall := fun W => cachepotref1_Ahead.calls (R[j].size + xk.size + 10) R[j] xk _ W (ahead_f R[j] xk (hsR _ (List.getElem_mem hlj)) hsx)
          obtain ⟨bo, hbo⟩ : ∃ bo, bo = aheadB R[j] xk := ⟨_, rfl⟩
          rw [← hbo] at hcall
          have Hbo := Lib.hid hbo
          clear hbo
          have d1 : decide (j < R.length) = true := decide_eq_true hlj
          have d2 : decide ((j : Int) < (R.length : Int)) = true := decide_eq_true (by omega)
          cases bo
          · go_wp2
            go_still_tail 13, (by kernel_rfl)
            change wpList _ _ _ _ _ wr.drew
            go_wp2_with fail
            refine (hcall _).mono ?_
            rintro e w5 ⟨rfl, hb5⟩
            have hbx : Below w2.heap.size w2 w5 := below_then (below_drew hbi) (below_drew hbi).size hb5
            have hpl : placeK xk R = j := placeK_go xk R j Hah.out hjl (.inr ⟨hlj, Hbo.out.symm⟩)
            have x0x5 := zz2 _ (below_then hb hb.size hbx)
            have y5 := (hb5.cell (World.block_lt_of_cell? wr.drew _ y0)).trans y0
            by_cases hs : R[j].toList = xk.toList
            · have q1 : (R[j].toList == xk.toList) = true := beq_iff_eq.mpr hs
              have hsame : sort1 R xk = R := by rw [sort1, if_pos (hitK_yes hpl hlj hs)]
              rw [hsame] at Hsn
              clear hs hsame hpl
              go_wp2
              go_quiet (fail)
              have hbx6 := pw_below_drewN hbx nq
              have hbw6 : Below w.heap.size w (w5.drewN nq) := below_then hb hb.size hbx6
              have hR6 := Kd.R_below hR hbx6
              go_wp2
              go_roundw
              case rel => exact ⟨k + 1, hlt, by simp, by rw [Hsn.out]; exact hR6, hbw6⟩
              case measure => simp [intOf]; omega
            · have q1 : (R[j].toList == xk.toList) = false := beq_eq_false_iff_ne.mpr hs
              have Hno : Hid (¬ ∃ h : j < R.length, R[j].toList = xk.toList) := Lib.hid (fun ⟨_, e⟩ => hs e)
              clear hs
              go_wp2
              go_quiet (fail)
              have hbx6 := pw_below_drewN hbx nq
              clear hcall Hbo y0 y5 x0x5 d1 d2 Hah hCi hb5 hbx q1
              generalize w5.drewN nq = w6 at hbx6 ⊢
              obtain ⟨w5, rfl⟩ : ∃ w5 : World, w5 = w6 := ⟨_, rfl⟩
              have hbx := hbx6
              clear hbx6
              go_wp2
              have hit0 : sort1 R xk = R.take j ++ [xk] ++ R.drop j := by rw [sort1, if_neg (by rw [hitK_no hpl Hno.out]; decide), hpl]
              have Hit := Lib.hid hit0
              clear hit0 hpl
              have hCx := Kd.C_below hC2 hbx
              have hbw : Below w.heap.size w w5 := below_then hb hb.size hbx
              have x0x := zz2 _ hbw
              have hs1 := slice_headS (some adv) R.length c2 j hjl hc2
              have hs2 := slice_tailS (some adv) R.length c2 j hjl
              have hjt : (R.take j).length = j := by rw [List.length_take]; omega
              have hT1 : ∀ W, Below w5.heap.size w5 W → ReadsRow (Kd.string.K w5) 1 W (some adv) j (R.take j) := fun W hW => by
                have h := Kd.C_below (Kd.C_take hCx hjl) hW
                rw [hjt] at h
                exact h
              have hT2 : ∀ W, Below w5.heap.size w5 W → ReadsRow (Kd.string.K w5) 1 W (if c2 = j then (some adv) else (some adv).map (·.add j)) (R.length - j) (R.drop j) := fun W hW => by
                have h := Kd.C_below (Kd.C_drop hCx hjl hc2) hW
                rw [List.length_drop] at h
                rw [show Kd.string.sz = 1 from rfl, Nat.mul_one] at h
                exact h
              have hKM : ∀ (W : World) (x : ByteArray) (cs : List Value), Kd.string.K w5 x cs → Kd.string.M W w5.heap.size (fun _ => False) x cs := fun W x cs hK => hK
              have Hjt := Lib.hid hjt
              clear hjt
              have zz : ∀ W, Below w5.heap.size w5 W → W.cell? (ad.add k) = some (.string xk) := fun W hW => zz2 W (below_then hbw hbw.size hW)
              go_region_held3 (fun W => W.cell? (ad.add k) = some (.string xk)) (exact zz _ (by first | assumption | exact Below.refl _ _ | exact below_drew (Below.refl _ _) | exact below_drew (by assumption) | exact below_alloc (by assumption) _ | exact below_drew (below_alloc (Below.refl _ _) _) | exact below_alloc (below_drew (Below.refl _ _)) _))
                  (first
                    | (refine Kd.R_append_rows_step Kd.string (Rr := Kd.string.K w5) (w0 := w5) w5.heap.size ?_ (.const (.slice none 0 0)) (.tmp 46) 22 9 (.string ⟨#[]⟩) 16 ?_ Tryd.underlying22 info9 rfl ?_ ?_ (.slice none 0 0) [] (R.take j) (some adv) j c2 (fun _ => True) (fun _ => False) ?_ ?_ (Kd.R_nil _ _ _ _ _) (hT1 _ (by first | assumption | exact Below.refl _ _ | exact below_drew (Below.refl _ _) | exact below_drew (by assumption) | exact below_alloc (by assumption) _ | exact below_drew (below_alloc (Below.refl _ _) _) | exact below_alloc (below_drew (Below.refl _ _)) _)) (hKM _) (fun _ h => h.elim) (fun _ _ => trivial) (by first | assumption | exact Below.refl _ _ | exact below_drew (Below.refl _ _) | exact below_drew (by assumption) | exact below_alloc (by assumption) _ | exact below_drew (below_alloc (Below.refl _ _) _) | exact below_alloc (below_drew (Below.refl _ _)) _) (sz_of (by first | assumption | exact Below.refl _ _ | exact below_drew (Below.refl _ _) | exact below_drew (by assumption) | exact below_alloc (by assumption) _ | exact below_drew (below_alloc (Below.refl _ _) _) | exact below_alloc (below_drew (Below.refl _ _)) _)) (le16 hjl hRl) ?_; (rfl); (rfl); (decide); (decide); (rfl); (rfl); intro vA wA hRA hbA hgA _; rw [List.nil_append] at hRA; obtain ⟨AA, cA, eA⟩ := Kd.R_slice hRA; rw [Hjt.out] at eA; subst eA)
                    | (refine Kd.R_append_step Kd.string (w0 := w5) w5.heap.size ?_ (.tmp 47) (.tmp 52) 22 9 (.string ⟨#[]⟩) 16 ?_ Tryd.underlying22 info9 rfl ?_ ?_ _ (R.take j) xk [.string xk] (fun _ => True) (fun _ => False) ?_ ?_ rfl (fun _ hk => hk.elim) (fun _ _ => trivial) hRA hbA hbA.size (le16b Hjt.out hjl hRl) ?_; (rfl); (rfl); (decide); (decide); (rfl); (first | rfl | (go_simp; done) | (go_simp; rfl)); intro vB wB hRB hbB _ _; obtain ⟨AB, cB, eB⟩ := Kd.R_slice hRB; rw [lenS_b Hjt.out] at eB; subst eB)
                    | (refine Kd.R_append_rows_step Kd.string (Rr := Kd.string.K w5) (w0 := w5) w5.heap.size ?_ (.tmp 47) (.tmp 52) 22 9 (.string ⟨#[]⟩) 16 ?_ Tryd.underlying22 info9 rfl ?_ ?_ _ (R.take j) [xk] (some ⟨w5.heap.size, 0, none⟩) 1 1 (fun _ => True) (fun _ => False) ?_ ?_ hRA (litS_reads (w5 := w5) xk ((hgA.block w5.heap.size (new_lt _ _) nil_own).trans (heap_alloc_new w5 _))) (hKM _) (fun _ h => h.elim) (fun _ _ => trivial) hbA hbA.size (le16b Hjt.out hjl hRl) ?_; (rfl); (rfl); (decide); (decide); (rfl); (rfl); intro vB wB hRB hbB _ _; obtain ⟨AB, cB, eB⟩ := Kd.R_slice hRB; rw [lenS_b Hjt.out] at eB; subst eB)
                    | (refine Kd.R_append_rows_step Kd.string (Rr := Kd.string.K w5) (w0 := w5) w5.heap.size ?_ (.tmp 53) (.tmp 56) 22 9 (.string ⟨#[]⟩) 16 ?_ Tryd.underlying22 info9 rfl ?_ ?_ _ (R.take j ++ [xk]) (R.drop j) _ (R.length - j) (c2 - j) (fun _ => True) (fun _ => False) ?_ ?_ hRB (hT2 _ hbB) (hKM _) (fun _ h => h.elim) (fun _ _ => trivial) hbB hbB.size (le16c Hjt.out hjl hRl) ?_; (rfl); (rfl); (decide); (decide); (rfl); (rfl); intro vC wC hRC hbC _ _; obtain ⟨AC, cC, eC⟩ := Kd.R_slice hRC; rw [lenS_c Hjt.out hjl] at eC; subst eC))
              all_goals (
                rw [← Hit.out, ← Hsn.out] at hRC
                have hRf := Kd.R_lower hRC hbw.size
                have hbf : Below w.heap.size w wC := below_then hbw hbw.size hbC
                clear hRC
                go_wp2
                go_roundw
                case rel => exact ⟨k + 1, hlt, by simp, hRf, hbf⟩
                case measure => simp [intOf]; omega)
          · go_wp2
            go_still_tail 13, (by kernel_rfl)
            change wpList _ _ _ _ _ wr.drew
            go_wp2_with fail
            refine (hcall _).mono ?_
            rintro e w5 ⟨rfl, hb5⟩
            have hbx : Below w2.heap.size w2 w5 := below_then (below_drew hbi) (below_drew hbi).size hb5
            have Hah2 : Hid (∀ i (h : i < R.length), i < j + 1 → aheadB R[i] xk = true) := Lib.hid (fun i hi hij => by
              by_cases e : i = j
              · subst e; exact Hbo.out.symm
              · exact Hah.out i hi (by omega))
            clear hcall Hbo y0 d1 d2 Hah hCi
            go_wp2
            go_roundw
            case rel => exact ⟨j + 1, hlj, by simp, Hah2, hbx⟩
            case measure => simp [intOf]; omega
        · have d1 : decide (j < R.length) = false := decide_eq_false hlj
          have d2 : decide ((j : Int) < (R.length : Int)) = false := decide_eq_false (by omega)
          have hpl : placeK xk R = j := placeK_go xk R j Hah.out hjl (.inl (by omega))
          clear Hah
          go_wp2
          go_quiet (fail)
          have hbx := pw_below_drewN hbi nq
          generalize wr.drewN nq = w5 at hbx ⊢
          have Hno : Hid (¬ ∃ h : j < R.length, R[j].toList = xk.toList) := Lib.hid (fun ⟨h, _⟩ => hlj h)
          go_wp2
          go_quiet (fail)
          have hbx6 := pw_below_drewN hbx nq
          clear d1 d2 hbx
          generalize w5.drewN nq = w6 at hbx6 ⊢
          obtain ⟨w5, rfl⟩ : ∃ w5 : World, w5 = w6 := ⟨_, rfl⟩
          have hbx := hbx6
          clear hbx6
          go_wp2
          have hit0 : sort1 R xk = R.take j ++ [xk] ++ R.drop j := by rw [sort1, if_neg (by rw [hitK_no hpl Hno.out]; decide), hpl]
          have Hit := Lib.hid hit0
          clear hit0 hpl
          have hCx := Kd.C_below hC2 hbx
          have hbw : Below w.heap.size w w5 := below_then hb hb.size hbx
          have x0x := zz2 _ hbw
          have hs1 := slice_headS A2 R.length c2 j hjl hc2
          have hs2 := slice_tailS A2 R.length c2 j hjl
          have hjt : (R.take j).length = j := by rw [List.length_take]; omega
          have hT1 : ∀ W, Below w5.heap.size w5 W → ReadsRow (Kd.string.K w5) 1 W A2 j (R.take j) := fun W hW => by
            have h := Kd.C_below (Kd.C_take hCx hjl) hW
            rw [hjt] at h
            exact h
          have hT2 : ∀ W, Below w5.heap.size w5 W → ReadsRow (Kd.string.K w5) 1 W (if c2 = j then A2 else A2.map (·.add j)) (R.length - j) (R.drop j) := fun W hW => by
            have h := Kd.C_below (Kd.C_drop hCx hjl hc2) hW
            rw [List.length_drop] at h
            rw [show Kd.string.sz = 1 from rfl, Nat.mul_one] at h
            exact h
          have hKM : ∀ (W : World) (x : ByteArray) (cs : List Value), Kd.string.K w5 x cs → Kd.string.M W w5.heap.size (fun _ => False) x cs := fun W x cs hK => hK
          have Hjt := Lib.hid hjt
          clear hjt
          have zz : ∀ W, Below w5.heap.size w5 W → W.cell? (ad.add k) = some (.string xk) := fun W hW => zz2 W (below_then hbw hbw.size hW)
          go_region_held3 (fun W => W.cell? (ad.add k) = some (.string xk)) (exact zz _ (by first | assumption | exact Below.refl _ _ | exact below_drew (Below.refl _ _) | exact below_drew (by assumption) | exact below_alloc (by assumption) _ | exact below_drew (below_alloc (Below.refl _ _) _) | exact below_alloc (below_drew (Below.refl _ _)) _))
              (first
                | (refine Kd.R_append_rows_step Kd.string (Rr := Kd.string.K w5) (w0 := w5) w5.heap.size ?_ (.const (.slice none 0 0)) (.tmp 46) 22 9 (.string ⟨#[]⟩) 16 ?_ Tryd.underlying22 info9 rfl ?_ ?_ (.slice none 0 0) [] (R.take j) A2 j c2 (fun _ => True) (fun _ => False) ?_ ?_ (Kd.R_nil _ _ _ _ _) (hT1 _ (by first | assumption | exact Below.refl _ _ | exact below_drew (Below.refl _ _) | exact below_drew (by assumption) | exact below_alloc (by assumption) _ | exact below_drew (below_alloc (Below.refl _ _) _) | exact below_alloc (below_drew (Below.refl _ _)) _)) (hKM _) (fun _ h => h.elim) (fun _ _ => trivial) (by first | assumption | exact Below.refl _ _ | exact below_drew (Below.refl _ _) | exact below_drew (by assumption) | exact below_alloc (by assumption) _ | exact below_drew (below_alloc (Below.refl _ _) _) | exact below_alloc (below_drew (Below.refl _ _)) _) (sz_of (by first | assumption | exact Below.refl _ _ | exact below_drew (Below.refl _ _) | exact below_drew (by assumption) | exact below_alloc (by assumption) _ | exact below_drew (below_alloc (Below.refl _ _) _) | exact below_alloc (below_drew (Below.refl _ _)) _)) (le16 hjl hRl) ?_; (rfl); (rfl); (decide); (decide); (rfl); (rfl); intro vA wA hRA hbA hgA _; rw [List.nil_append] at hRA; obtain ⟨AA, cA, eA⟩ := Kd.R_slice hRA; rw [Hjt.out] at eA; subst eA)
                | (refine Kd.R_append_step Kd.string (w0 := w5) w5.heap.size ?_ (.tmp 47) (.tmp 52) 22 9 (.string ⟨#[]⟩) 16 ?_ Tryd.underlying22 info9 rfl ?_ ?_ _ (R.take j) xk [.string xk] (fun _ => True) (fun _ => False) ?_ ?_ rfl (fun _ hk => hk.elim) (fun _ _ => trivial) hRA hbA hbA.size (le16b Hjt.out hjl hRl) ?_; (rfl); (rfl); (decide); (decide); (rfl); (first | rfl | (go_simp; done) | (go_simp; rfl)); intro vB wB hRB hbB _ _; obtain ⟨AB, cB, eB⟩ := Kd.R_slice hRB; rw [lenS_b Hjt.out] at eB; subst eB)
                | (refine Kd.R_append_rows_step Kd.string (Rr := Kd.string.K w5) (w0 := w5) w5.heap.size ?_ (.tmp 47) (.tmp 52) 22 9 (.string ⟨#[]⟩) 16 ?_ Tryd.underlying22 info9 rfl ?_ ?_ _ (R.take j) [xk] (some ⟨w5.heap.size, 0, none⟩) 1 1 (fun _ => True) (fun _ => False) ?_ ?_ hRA (litS_reads (w5 := w5) xk ((hgA.block w5.heap.size (new_lt _ _) nil_own).trans (heap_alloc_new w5 _))) (hKM _) (fun _ h => h.elim) (fun _ _ => trivial) hbA hbA.size (le16b Hjt.out hjl hRl) ?_; (rfl); (rfl); (decide); (decide); (rfl); (rfl); intro vB wB hRB hbB _ _; obtain ⟨AB, cB, eB⟩ := Kd.R_slice hRB; rw [lenS_b Hjt.out] at eB; subst eB)
                | (refine Kd.R_append_rows_step Kd.string (Rr := Kd.string.K w5) (w0 := w5) w5.heap.size ?_ (.tmp 53) (.tmp 56) 22 9 (.string ⟨#[]⟩) 16 ?_ Tryd.underlying22 info9 rfl ?_ ?_ _ (R.take j ++ [xk]) (R.drop j) _ (R.length - j) (c2 - j) (fun _ => True) (fun _ => False) ?_ ?_ hRB (hT2 _ hbB) (hKM _) (fun _ h => h.elim) (fun _ _ => trivial) hbB hbB.size (le16c Hjt.out hjl hRl) ?_; (rfl); (rfl); (decide); (decide); (rfl); (rfl); intro vC wC hRC hbC _ _; obtain ⟨AC, cC, eC⟩ := Kd.R_slice hRC; rw [lenS_c Hjt.out hjl] at eC; subst eC))
          all_goals (
            rw [← Hit.out, ← Hsn.out] at hRC
            have hRf := Kd.R_lower hRC hbw.size
            have hbf : Below w.heap.size w wC := below_then hbw hbw.size hbC
            clear hRC
            go_wp2
            go_roundw
            case rel => exact ⟨k + 1, hlt, by simp, hRf, hbf⟩
            case measure => simp [intOf]; omega)
    · have hke : k = l0.length := by omega
      subst hke
      rw [List.take_length, Hq.out] at hR
      go_wp2
      go_ret
      exact ⟨_, rfl, hR, hb⟩
end Go.Proofs.YtfaelejeihmgcaaDoor.Lgx
end

section
namespace Go.Proofs.YtfaelejeihmgcaaDoor.Atm
open Go.RowKit Go.Maps
/-- what a key has: whether, the value, the batch -/
abbrev Had := Bool × ByteArray × Int
def nought : Had := (false, ⟨#[]⟩, 0)
def datum (x : Had) : DataW Unit := .agg [.lit (.bool x.1), .lit (.string x.2.1.data.toList), .lit (.int .u32 x.2.2)]
theorem bytes_inj {a b : ByteArray} (h : a.data.toList = b.data.toList) : a = b := by
  obtain ⟨⟨a⟩⟩ := a
  obtain ⟨⟨b⟩⟩ := b
  simp at h
  rw [h]
theorem datum_inj {x y : Had} (h : datum x = datum y) : x = y := by
  obtain ⟨a, b, c⟩ := x
  obtain ⟨a', b', c'⟩ := y
  simp only [datum, DataW.agg.injEq, List.cons.injEq, DataW.lit.injEq, Lit.bool.injEq, Lit.string.injEq, Lit.int.injEq, and_true, true_and] at h
  obtain ⟨h1, h2, h3⟩ := h
  rw [h1, bytes_inj h2, h3]
/-- How an element reads: its own key is not looked at. -/
def ansElem : Value → Option (DataW Unit × List MemPlace)
  | .agg ⟨[.string _, .bool i, .string s, .int .u32 f]⟩ => some (datum (i, s, f), [])
  | _ => none
def ansVal (k : ByteArray) (x : Had) : Value := .agg #[.string k, .bool x.1, .string x.2.1, .int .u32 x.2.2]
theorem ansElem_mk (k : ByteArray) (x : Had) : ansElem (ansVal k x) = some (datum x, []) := rfl
theorem ansElem_inv {v : Value} {z : DataW Unit × List MemPlace} (h : ansElem v = some z) : ∃ k x, v = ansVal k x ∧ z = (datum x, []) := by
  unfold ansElem at h
  split at h
  · rename_i k i s f
    cases h
    exact ⟨k, (i, s, f), rfl, rfl⟩
  · cases h
theorem law : Keyed Tryd.prog 9 := string_keyed Tryd.underlying9
theorem zeroE (w : World) : (zeroValue 98).run Tryd.prog w = .ok (ansVal ⟨#[]⟩ nought) w := by kernel_rfl
/-- Block b is a map of at most n entries that tells M. -/
structure MapIs (w : World) (b n : Nat) (M : ByteArray → Had) : Prop where
  out : ∃ D, w.ownsMap Tryd.prog 9 ansElem b n D ∧ ∀ k : ByteArray, D.atKey (.string k.data.toList) (datum nought) = datum (M k)
def putM (M : ByteArray → Had) (k : ByteArray) (x : Had) : ByteArray → Had := fun k' => if k' = k then x else M k'
theorem MapIs.made (w : World) : MapIs (w.alloc (.map #[] 0)) w.heap.size 0 (fun _ => nought) :=
  ⟨_, World.ownsMap_made w Tryd.prog 9 ansElem, fun _ => rfl⟩
theorem MapIs.lt {w : World} {b n : Nat} {M : ByteArray → Had} (h : MapIs w b n M) : b < w.heap.size := by
  obtain ⟨D, h, _⟩ := h
  exact h.lt
theorem MapIs.mono {w : World} {b n n' : Nat} {M : ByteArray → Had} (h : MapIs w b n M) (hn : n ≤ n') : MapIs w b n' M := by
  obtain ⟨D, h, hM⟩ := h
  exact ⟨D, h.mono hn, hM⟩
theorem MapIs.move {w w' : World} {b n : Nat} {M : ByteArray → Had} (h : MapIs w b n M) (he : w'.heap[b]? = w.heap[b]?) : MapIs w' b n M := by
  obtain ⟨D, ⟨es, clock, hb, r⟩, hM⟩ := h
  exact ⟨D, ⟨es, clock, he.trans hb, r⟩, hM⟩
theorem MapIs.below {w w' : World} {b n : Nat} {M : ByteArray → Had} (h : MapIs w b n M) (hb : Below w.heap.size w w') : MapIs w' b n M := h.move (hb.block b h.lt)
theorem MapIs.is_map {w : World} {b n : Nat} {M : ByteArray → Had} (h : MapIs w b n M) : ∃ es clock, w.heap[b]? = some (.map es clock) := by
  obtain ⟨D, ⟨es, clock, hb, _⟩, _⟩ := h
  exact ⟨es, clock, hb⟩
theorem keyed (k : ByteArray) (hk : k.size ≤ maxLen) : keyOf Tryd.prog 9 (.string k) = some (.string k.data.toList) := WideMaps.keyOf_string_mk Tryd.underlying9 hk
theorem lit_ne {k k' : ByteArray} (h : k' ≠ k) : Lit.string k'.data.toList ≠ Lit.string k.data.toList := fun e => h (bytes_inj (by simpa using e))
section
variable {ops : Array Oper} {rest : List Oper} {o : Oper} {a : Act} {Q : Exit → Act → World → Prop}
/-- 'm[k]' -/
theorem wpList_look (w : World) (hg : o.guard = none) (m x : Operand) (hop : o.op = Op.lookup 142 m x false) (b n : Nat) (M : ByteArray → Had)
    (hm : a.eval m = .map (some b)) (h : MapIs w b n M) (k : ByteArray) (hx : a.eval x = .string k) (hk : k.size ≤ maxLen)
    (hK : ∀ k', wpList Tryd.prog ops Q rest (a.put o.dst (ansVal k' (M k))) w) :
    wpList Tryd.prog ops Q (o :: rest) a w := by
  refine wpList_plain hg fun K' hK' => ?_
  obtain ⟨D, hown, hM⟩ := h
  obtain ⟨v, ps, hrun, hv⟩ := hown.lookup law Tryd.underlying142 (zeroE w) (ansElem_mk _ _) (keyed k hk)
  obtain ⟨k', y, rfl, hz⟩ := ansElem_inv hv
  rw [hM k] at hz
  simp only [Prod.mk.injEq] at hz
  obtain rfl := datum_inj hz.1
  unfold Oper.wp
  simp [execOp, hop, hm, hx, hrun, Result.andThen]
  exact hK' _ _ (hK k')
/-- 'm[k] = v' -/
theorem wpList_put (w : World) (hg : o.guard = none) (m x v : Operand) (hop : o.op = Op.mapUpdate 142 m x v) (b n : Nat) (M : ByteArray → Had)
    (hm : a.eval m = .map (some b)) (h : MapIs w b n M) (hn : n < maxLen) (k k' : ByteArray) (y : Had) (hx : a.eval x = .string k) (hv : a.eval v = ansVal k' y) (hk : k.size ≤ maxLen)
    (hK : ∀ w', MapIs w' b (n + 1) (putM M k y) → w.grownBy w' (some b) → wpList Tryd.prog ops Q rest (a.put o.dst undef) w') :
    wpList Tryd.prog ops Q (o :: rest) a w := by
  obtain ⟨D, hown, hM⟩ := h
  refine wpList_mapUpdate_in w hg m x v 142 hop 9 98 law Tryd.underlying142 ansElem b n D hm hown hn _ _ _ hx hv (keyed k hk) _ _ (ansElem_mk k' y) ?_
  intro w' h1 ht
  refine hK w' ⟨_, h1, fun q => ?_⟩ ht.grown
  unfold putM
  by_cases hq : q = k
  · subst hq
    rw [if_pos rfl]
    exact atKey_put_same hown.isMap (law.key (keyed q hk)) _ _
  · rw [if_neg hq, atKey_put_other (lit_ne hq)]
    exact hM q
/-- 'delete(m, k)' -/
theorem wpList_del (w : World) (hg : o.guard = none) (m x : Operand) (hop : o.op = Op.call { callee := Callee.builtin Builtin.delete, args := #[m, x], argTypes := #[142, 9] }) (b n : Nat) (M : ByteArray → Had)
    (hm : a.eval m = .map (some b)) (h : MapIs w b n M) (k : ByteArray) (hx : a.eval x = .string k) (hk : k.size ≤ maxLen)
    (hK : ∀ w', MapIs w' b n (putM M k nought) → w.grownBy w' (some b) → wpList Tryd.prog ops Q rest (a.put o.dst (.tuple #[])) w') :
    wpList Tryd.prog ops Q (o :: rest) a w := by
  obtain ⟨D, hown, hM⟩ := h
  refine wpList_delete_own w hg m x 142 9 hop 98 law Tryd.underlying142 ansElem b n D hm hown _ _ hx (keyed k hk) ?_
  intro w' h1 ht
  refine hK w' ⟨_, h1, fun q => ?_⟩ ht.grown
  unfold putM
  by_cases hq : q = k
  · subst hq
    rw [if_pos rfl]
    exact atKey_del_same _
  · rw [if_neg hq, atKey_del_other (lit_ne hq)]
    exact hM q
end
end Go.Proofs.YtfaelejeihmgcaaDoor.Atm
end

section
namespace Go.Proofs.YtfaelejeihmgcaaDoor.Lgx
open Go.RowKit Go.Proofs.YtfaelejeihmgcaaDoorW.PrintWords Go.Proofs.YtfaelejeihmgcaaDoorW.PrintLast
open Atm (MapIs Had nought putM ansVal)
/-- A pointer to a Map in block b, whose map is block m. -/
structure AtomIs (w : World) (b m n : Nat) (M : ByteArray → Had) : Prop where
  cell : w.heap[b]? = some (.cells #[.map (some m)] 144 (0, 0))
  map : MapIs w m n M
theorem AtomIs.lt {w : World} {b m n : Nat} {M : ByteArray → Had} (h : AtomIs w b m n M) : b < w.heap.size := (Array.getElem?_eq_some_iff.1 h.cell).1
theorem AtomIs.ne {w : World} {b m n : Nat} {M : ByteArray → Had} (h : AtomIs w b m n M) : b ≠ m := fun e => by
  subst e
  obtain ⟨es, clock, hb⟩ := h.map.is_map
  have := h.cell.symm.trans hb
  cases this
theorem AtomIs.below {w w' : World} {b m n : Nat} {M : ByteArray → Had} (h : AtomIs w b m n M) (hb : Below w.heap.size w w') : AtomIs w' b m n M :=
  ⟨(hb.block b h.lt).trans h.cell, h.map.below hb⟩
theorem AtomIs.cell0 {w : World} {b m n : Nat} {M : ByteArray → Had} (h : AtomIs w b m n M) : w.cell? ⟨b, 0, none⟩ = some (.map (some m)) := by
  simp [World.cell?, h.cell]
/-- the map is written -/
theorem AtomIs.put {w w' : World} {b m n n' : Nat} {M M' : ByteArray → Had} (h : AtomIs w b m n M) (hm : MapIs w' m n' M') (hg : w.grownBy w' (some m)) : AtomIs w' b m n' M' :=
  ⟨(hg.block b h.lt (fun e => h.ne (Option.some.inj e))).trans h.cell, hm⟩
theorem atom_New (w : World) :
    Calls Tryd.prog 72 #[] w fun e w' => e = .returned (.pointer (some ⟨w.heap.size + 1, 0, none⟩)) ∧ AtomIs w' (w.heap.size + 1) w.heap.size 0 (fun _ => nought) ∧ Below w.heap.size w w' := by
  have hmm := @run_makeMap Tryd.prog
  go_enter Tryd.func72, Tryd.ntmps72
  go_wp2
  go_ret
  refine ⟨rfl, ⟨?_, (MapIs.made w).below (below_alloc (Below.refl _ _) _)⟩, below_alloc (below_alloc (Below.refl _ _) _) _⟩
  have h := heap_alloc_new (w.alloc (Obj.map #[] 0)) (Obj.cells #[Value.map (some w.heap.size)] 144)
  rwa [show (w.alloc (Obj.map #[] 0)).heap.size = w.heap.size + 1 by simp] at h
def commitM (seq : Int) : List S101 → (ByteArray → Had) → (ByteArray → Had)
  | [], M => M
  | x :: l, M => commitM seq l (putM M x.f0 (if x.f1 then nought else (true, x.f2, seq)))
theorem commitM_snoc (seq : Int) (l : List S101) (x : S101) : ∀ M, commitM seq (l ++ [x]) M = putM (commitM seq l M) x.f0 (if x.f1 then nought else (true, x.f2, seq)) := by
  induction l with
  | nil => intro M; rfl
  | cons y l ih => intro M; exact ih _
theorem rd101 {l : List S101} {k : Nat} (h : k < l.length) : rd_T101 l (k : Int) = l[k] := by
  unfold rd_T101
  rw [List.getD_eq_getElem?_getD, Int.toNat_natCast, List.getElem?_eq_getElem h]
  rfl
set_option maxHeartbeats 4000000 in
set_option maxRecDepth 100000 in
theorem atom_Commit (b m n : Nat) (M : ByteArray → Had) (seq : Int) (A : Option Addr) (c : Nat) (l : List S101) (w : World) (hA : AtomIs w b m n M) (hr : ∀ W, w.grownBy W (some m) → Kd.C k101 W A l.length l)
    (hk : ∀ x ∈ l, x.f0.size ≤ maxLen) (hn : n + l.length < maxLen) :
    Calls Tryd.prog 73 #[.pointer (some ⟨b, 0, none⟩), .int .u32 seq, .slice A l.length c] w fun e w' => e = .returned (.tuple #[]) ∧ AtomIs w' b m (n + l.length) (commitM seq l M) ∧ w.grownBy w' (some m) := by
  have cb := hA.cell0
  have q0 := fun (w : World) (r : Option Nat) => run_eql_map_nil (P := Tryd.prog) w 142 9 98 r Tryd.underlying142
  have hl : l.length ≤ 9223372036854775807 := by unfold maxLen at hn; omega
  go_enter Tryd.func73, Tryd.ntmps73
  go_wp2
  go_loopw [21] (fun i wr => ∃ k : Nat, k ≤ l.length ∧ i = .int .i64 k ∧ AtomIs wr b m (n + k) (commitM seq (l.take k) M) ∧ w.grownBy wr (some m)) (fun i _ => l.length - (intOf i).toNat)
  case atStart => exact ⟨0, Nat.zero_le _, rfl, hA, World.grownBy.refl _ _⟩
  case round =>
    obtain ⟨k, hkl, rfl, hI, hg⟩ := hrel
    by_cases hlt : k < l.length
    · obtain ⟨ad, e, c0, c1, c2⟩ := at_T101 (hr _ hg) k (by omega) (by omega)
      cases e
      rw [rd101 hlt] at c0 c1 c2
      have hkk := hk _ (List.getElem_mem hlt)
      have hsn := commitM_snoc seq (l.take k) l[k] M
      rw [← List.take_succ_eq_append_getElem hlt] at hsn
      obtain ⟨x, hx⟩ : ∃ x, x = l[k] := ⟨_, rfl⟩
      rw [← hx] at c0 c1 c2 hkk hsn
      have Hsn := Lib.hid hsn
      have Hx := Lib.hid hx
      clear hsn hx
      simp only [Int.toNat_natCast] at c0 c1 c2
      have cb1 := hI.cell0
      have hblt := hI.lt
      obtain ⟨xk, xd, xv⟩ := x
      cases xd
      · go_wp2_with fail
        have hIW := hI.below (below_alloc (Below.refl _ _) (Obj.cells #[Value.string xk, Value.bool false, Value.string xv] 101))
        have hgW := hg.trans (World.grownBy_alloc wr (Obj.cells #[Value.string xk, Value.bool false, Value.string xv] 101) (some m))
        have g0 := Lib.cell_of_heap (heap_alloc_new wr (Obj.cells #[Value.string xk, Value.bool false, Value.string xv] 101)) 0
        have g2 := Lib.cell_of_heap (heap_alloc_new wr (Obj.cells #[Value.string xk, Value.bool false, Value.string xv] 101)) 2
        simp only [List.getElem?_toArray, List.getElem?_cons_zero, List.getElem?_cons_succ] at g0 g2
        generalize wr.alloc (Obj.cells #[Value.string xk, Value.bool false, Value.string xv] 101) = W at hIW hgW g0 g2 ⊢
        have cbW := hIW.cell0
        go_still_tail 12, (by kernel_rfl)
        change wpList _ _ _ _ _ W.drew
        refine Atm.wpList_put _ rfl _ _ _ rfl m (n + k) _ rfl (hIW.map.below (below_drew (Below.refl _ _))) (by omega) xk xk (true, xv, seq) rfl rfl hkk ?_
        intro w1 hm1 hg1
        have hA1 := AtomIs.put (hIW.below (below_drew (Below.refl _ _))) hm1 hg1
        have hg2 := hgW.trans (World.grownBy.trans ((grown_of_below (below_drew (Below.refl _ _)) _)) hg1)
        clear hm1 hg1
        go_wp2
        go_roundw
        case rel => exact ⟨k + 1, hlt, by simp, by rw [Hsn.out]; exact hA1, hg2⟩
        case measure => simp [intOf]; omega
      · go_wp2_with fail
        have hIW := hI.below (below_alloc (Below.refl _ _) (Obj.cells #[Value.string xk, Value.bool true, Value.string xv] 101))
        have hgW := hg.trans (World.grownBy_alloc wr (Obj.cells #[Value.string xk, Value.bool true, Value.string xv] 101) (some m))
        have g0 := Lib.cell_of_heap (heap_alloc_new wr (Obj.cells #[Value.string xk, Value.bool true, Value.string xv] 101)) 0
        have g2 := Lib.cell_of_heap (heap_alloc_new wr (Obj.cells #[Value.string xk, Value.bool true, Value.string xv] 101)) 2
        simp only [List.getElem?_toArray, List.getElem?_cons_zero, List.getElem?_cons_succ] at g0 g2
        generalize wr.alloc (Obj.cells #[Value.string xk, Value.bool true, Value.string xv] 101) = W at hIW hgW g0 g2 ⊢
        have cbW := hIW.cell0
        go_still_tail 6, (by kernel_rfl)
        change wpList _ _ _ _ _ W.drew
        refine Atm.wpList_del _ rfl _ _ rfl m (n + k) _ rfl (hIW.map.below (below_drew (Below.refl _ _))) xk rfl hkk ?_
        intro w1 hm1 hg1
        have hA1 := AtomIs.put (hIW.below (below_drew (Below.refl _ _))) (hm1.mono (Nat.le_succ _)) hg1
        have hg2 := hgW.trans (World.grownBy.trans ((grown_of_below (below_drew (Below.refl _ _)) _)) hg1)
        clear hm1 hg1
        go_wp2
        go_roundw
        case rel => exact ⟨k + 1, hlt, by simp, by rw [Hsn.out]; exact hA1, hg2⟩
        case measure => simp [intOf]; omega
    · have hke : k = l.length := by omega
      subst hke
      rw [List.take_length] at hI
      go_wp2
      go_end0
      exact ⟨rfl, hI, hg⟩
def forgetM : List ByteArray → (ByteArray → Had) → (ByteArray → Had)
  | [], M => M
  | x :: l, M => forgetM l (putM M x nought)
theorem forgetM_snoc (l : List ByteArray) (x : ByteArray) : ∀ M, forgetM (l ++ [x]) M = putM (forgetM l M) x nought := by
  induction l with
  | nil => intro M; rfl
  | cons y l ih => intro M; exact ih _
theorem rdstr {l : List ByteArray} {k : Nat} (h : k < l.length) : rdOf ByteArray.empty l (k : Int) = l[k] := by
  unfold rdOf
  rw [List.getD_eq_getElem?_getD, Int.toNat_natCast, List.getElem?_eq_getElem h]
  rfl
set_option maxHeartbeats 4000000 in
set_option maxRecDepth 100000 in
theorem atom_Forget (b m n : Nat) (M : ByteArray → Had) (A : Option Addr) (c : Nat) (l : List ByteArray) (w : World) (hA : AtomIs w b m n M) (hr : ∀ W, w.grownBy W (some m) → Kd.C Kd.string W A l.length l)
    (hk : ∀ x ∈ l, x.size ≤ maxLen) (hl : l.length ≤ 9223372036854775807) :
    Calls Tryd.prog 74 #[.pointer (some ⟨b, 0, none⟩), .slice A l.length c] w fun e w' => e = .returned (.tuple #[]) ∧ AtomIs w' b m n (forgetM l M) ∧ w.grownBy w' (some m) := by
  have cb := hA.cell0
  go_enter Tryd.func74, Tryd.ntmps74
  go_wp2
  go_loopw [10] (fun i wr => ∃ k : Nat, k ≤ l.length ∧ i = .int .i64 k ∧ AtomIs wr b m n (forgetM (l.take k) M) ∧ w.grownBy wr (some m)) (fun i _ => l.length - (intOf i).toNat)
  case atStart => exact ⟨0, Nat.zero_le _, rfl, hA, World.grownBy.refl _ _⟩
  case round =>
    obtain ⟨k, hkl, rfl, hI, hg⟩ := hrel
    by_cases hlt : k < l.length
    · obtain ⟨ad, e, c0⟩ := Kd.at_string (hr _ hg) k (by omega) (by omega)
      cases e
      rw [rdstr hlt] at c0
      have hkk := hk _ (List.getElem_mem hlt)
      have hsn := forgetM_snoc (l.take k) l[k] M
      rw [← List.take_succ_eq_append_getElem hlt] at hsn
      obtain ⟨x, hx⟩ : ∃ x, x = l[k] := ⟨_, rfl⟩
      rw [← hx] at c0 hkk hsn
      have Hsn := Lib.hid hsn
      clear hsn hx
      simp only [Int.toNat_natCast] at c0
      have cb1 := hI.cell0
      go_wp2_with (at_delete; refine Atm.wpList_del _ rfl _ _ rfl m n _ rfl hI.map x rfl hkk ?_)
      intro w1 hm1 hg1
      have hA1 := AtomIs.put hI hm1 hg1
      have hg2 := hg.trans hg1
      clear hm1 hg1
      go_wp2
      go_roundw
      case rel => exact ⟨k + 1, hlt, by simp, by rw [Hsn.out]; exact hA1, hg2⟩
      case measure => simp [intOf]; omega
    · have hke : k = l.length := by omega
      subst hke
      rw [List.take_length] at hI
      go_wp2
      go_end0
      exact ⟨rfl, hI, hg⟩
def getM (M : ByteArray → Had) (l : List ByteArray) : List S98 := l.map fun k => ⟨k, (M k).1, (M k).2.1, (M k).2.2⟩
set_option maxHeartbeats 4000000 in
set_option maxRecDepth 100000 in
theorem atom_Get (b m n : Nat) (M : ByteArray → Had) (A : Option Addr) (c : Nat) (l : List ByteArray) (w : World) (hA : AtomIs w b m n M) (hr : Kd.C Kd.string w A l.length l)
    (hk : ∀ x ∈ l, x.size ≤ maxLen) (hl : l.length ≤ 1048576) :
    Calls Tryd.prog 76 #[.pointer (some ⟨b, 0, none⟩), .slice A l.length c] w fun e w' => ∃ v : Value, e = .returned v ∧ Kd.R k98 98 w' w.heap.size (fun _ => True) v (getM M l) ∧ Below w.heap.size w w' := by
  have cb := hA.cell0
  go_enter Tryd.func76, Tryd.ntmps76
  go_wp2
  go_loopw [5, 13] (fun v i wr => ∃ k : Nat, k ≤ l.length ∧ i = .int .i64 k ∧ Kd.R k98 98 wr w.heap.size (fun _ => True) v (getM M (l.take k)) ∧ Below w.heap.size w wr) (fun _ i _ => l.length - (intOf i).toNat)
  case atStart => exact ⟨0, Nat.zero_le _, rfl, Kd.R_nil _ _ _ _ _, Below.refl _ _⟩
  case round =>
    obtain ⟨k, hkl, rfl, hR, hb⟩ := hrel
    have hI := hA.below hb
    have cb1 := hI.cell0
    by_cases hlt : k < l.length
    · obtain ⟨ad, e, c0⟩ := Kd.at_string (Kd.C_below hr hb) k (by omega) (by omega)
      cases e
      rw [rdstr hlt] at c0
      have hkk := hk _ (List.getElem_mem hlt)
      have hsn : getM M (l.take (k + 1)) = getM M (l.take k) ++ [⟨l[k], (M l[k]).1, (M l[k]).2.1, (M l[k]).2.2⟩] := by
        rw [List.take_succ_eq_append_getElem hlt]
        simp only [getM, List.map_append, List.map_cons, List.map_nil]
      obtain ⟨x, hx⟩ : ∃ x, x = l[k] := ⟨_, rfl⟩
      rw [← hx] at c0 hkk hsn
      obtain ⟨mi, mv, mf, hmx⟩ : ∃ mi mv mf, M x = (mi, mv, mf) := ⟨_, _, _, rfl⟩
      rw [hmx] at hsn
      have Hmx := Lib.hid hmx
      clear hmx
      have Hsn := Lib.hid hsn
      clear hsn hx
      simp only [Int.toNat_natCast] at c0
      have hblt := hI.lt
      go_wp2_with (at_lookup; refine Atm.wpList_look _ rfl _ _ rfl m n _ rfl hI.map x rfl hkk ?_)
      intro k'
      rw [Hmx.out]
      unfold ansVal
      have hlen : (getM M (l.take k)).length ≤ 1048576 := by simp only [getM, List.length_map]; have := List.length_take_le k l; omega
      go_wp2_with (at_builtin; refine Kd.R_append k98 (w0 := w) w.heap.size rfl (.tmp 25) (.tmp 27) 41 98 (.agg #[(.string ⟨#[]⟩), (.bool false), (.string ⟨#[]⟩), (.int .u32 0)]) 48 rfl Tryd.underlying41 info98 rfl (by decide) (by omega) u5 (getM M (l.take k)) ⟨x, mi, mv, mf⟩ [.string x, .bool mi, .string mv, .int .u32 mf] (fun _ => True) (fun _ => False) rfl (by first | (go_simp; done) | (go_simp; rfl)) (k98_mkM _ _ _ ⟨x, mi, mv, mf⟩) (fun _ hk => hk.elim) (fun _ _ => trivial) (Kd.R_alloc hR _) (below_alloc hb _) (below_alloc hb _).size ?aL ?_)
      case aL => omega
      intro v1 w1 hR1 hb1 _ _
      have hR2 : Kd.R k98 98 w1 w.heap.size (fun _ => True) v1 (getM M (l.take (k + 1))) := by rw [Hsn.out]; exact hR1
      clear hR hR1
      go_wp2
      go_roundw
      case rel => exact ⟨k + 1, hlt, by simp, hR2, hb1⟩
      case measure => simp [intOf]; omega
    · have hke : k = l.length := by omega
      subst hke
      rw [List.take_length] at hR
      go_wp2
      go_ret
      exact ⟨_, rfl, hR, hb⟩
end Go.Proofs.YtfaelejeihmgcaaDoor.Lgx
end

section
namespace Go.Proofs.YtfaelejeihmgcaaDoor.Lgx
open Go.RowKit Go.Proofs.YtfaelejeihmgcaaDoorW.PrintWords Go.Proofs.YtfaelejeihmgcaaDoorW.PrintLast
open Atm (MapIs Had nought putM ansVal)
def asked (l : List S98) : List ByteArray := l.map (·.f0)
def stepM (e : S43) (M : ByteArray → Had) : ByteArray → Had :=
  if e.f0 = 1 then commitM e.f1 e.f2 M else if e.f0 = 3 then forgetM e.f4 M else M
def fails (e : S43) (M : ByteArray → Had) : Bool := decide (e.f0 = 2) && !sameA (getM M (asked e.f3)) e.f3
def replayM : Nat → (ByteArray → Had) → List S43 → Int × Bool
  | i, _, [] => ((i : Int), true)
  | i, M, e :: l => if fails e M = true then ((i : Int), false) else replayM (i + 1) (stepM e M) l
def small (s : ByteArray) : Bool := decide (s.size ≤ 140737488355328)
def okE (e : S43) : Bool := decide (e.f2.length ≤ 1048576) && decide (e.f3.length ≤ 1048576) && decide (e.f4.length ≤ 1048576) && e.f2.all (fun x => small x.f0) && e.f3.all (fun x => small x.f0) && e.f4.all small
def okL (l : List S43) : Bool := decide (l.length ≤ 1048576) && l.all okE
def ledger_Replay.f (l0 : List S43) : Option (Int × Bool) := if okL l0 = true then some (replayM 0 (fun _ => nought) l0) else none
theorem rd43 {l : List S43} {k : Nat} (h : k < l.length) : rd_T43 l (k : Int) = l[k] := by
  unfold rd_T43
  rw [List.getD_eq_getElem?_getD, Int.toNat_natCast, List.getElem?_eq_getElem h]
  rfl
theorem small_max {s : ByteArray} (h : small s = true) : s.size ≤ maxLen := by
  unfold small at h
  unfold maxLen
  have := of_decide_eq_true h
  omega
structure OkE (e : S43) : Prop where
  w : e.f2.length ≤ 1048576
  a : e.f3.length ≤ 1048576
  k : e.f4.length ≤ 1048576
  kw : ∀ x ∈ e.f2, x.f0.size ≤ maxLen
  ka : ∀ x ∈ asked e.f3, x.size ≤ maxLen
  kk : ∀ x ∈ e.f4, x.size ≤ maxLen
theorem bound_n {n k m v : Nat} (hn : n ≤ k * 1048576) (hk : k ≤ m) (hm : m ≤ 1048576) (hw : v ≤ 1048576) : n + v < maxLen := by
  unfold maxLen
  omega
theorem bound_k {v : Nat} (hw : v ≤ 1048576) : v ≤ 9223372036854775807 := by omega
theorem okE_is {e : S43} (h : okE e = true) : OkE e := by
  unfold okE at h
  simp only [Bool.and_eq_true, decide_eq_true_eq, List.all_eq_true] at h
  obtain ⟨⟨⟨⟨⟨h1, h2⟩, h3⟩, h4⟩, h5⟩, h6⟩ := h
  refine ⟨h1, h2, h3, fun x hx => small_max (h4 x hx), fun x hx => ?_, fun x hx => small_max (h6 x hx)⟩
  obtain ⟨y, hy, rfl⟩ := List.mem_map.1 hx
  exact small_max (h5 y hy)
set_option maxHeartbeats 8000000 in
set_option maxRecDepth 100000 in
theorem ledger_Replay.calls (A0 : Option Addr) (c0 : Nat) (l0 : List (S43)) (r1 : Int) (r2 : Bool) (w : World) (hr0 : Kd.C k43 w A0 l0.length l0) (hc0 : l0.length ≤ c0) (h : ledger_Replay.f l0 = some (r1, r2)) :
    Calls Tryd.prog 35 #[.slice A0 l0.length c0] w fun e w' => e = .returned (.tuple #[.int .i64 r1, .bool r2]) ∧ Below w.heap.size w w' := by
  have hok : okL l0 = true := by
    unfold ledger_Replay.f at h
    split at h
    · assumption
    · cases h
  have hq : Aside0 (replayM 0 (fun _ => nought) l0 = (r1, r2)) := ⟨by unfold ledger_Replay.f at h; rw [if_pos hok] at h; exact Option.some.inj h⟩
  have hok2 : l0.length ≤ 1048576 ∧ ∀ e ∈ l0, OkE e := by
    unfold okL at hok
    simp only [Bool.and_eq_true, decide_eq_true_eq, List.all_eq_true] at hok
    exact ⟨hok.1, fun e he => okE_is (hok.2 e he)⟩
  obtain ⟨hlen, hev⟩ := hok2
  have HC0 := Lib.hid hc0
  clear h hok hc0
  go_enter Tryd.func35, Tryd.ntmps35
  go_wp2_with fail
  refine (atom_New _).mono ?_
  rintro e w1 ⟨rfl, hA1, hb1⟩
  go_wp2_with fail
  go_loopw [13] (fun i wr => ∃ (k n : Nat) (M : ByteArray → Had), k ≤ l0.length ∧ i = .int .i64 k ∧ n ≤ k * 1048576 ∧ AtomIs wr (w.heap.size + 1) w.heap.size n M ∧ Below w.heap.size w wr ∧ Aside0 (replayM k M (l0.drop k) = (r1, r2))) (fun i _ => l0.length - (intOf i).toNat)
  case atStart => exact ⟨0, 0, _, Nat.zero_le _, rfl, Nat.zero_le _, hA1, hb1, by rw [List.drop_zero]; exact hq⟩
  case round =>
    clear hA1 hb1 hq
    obtain ⟨k, n, M, hkl, rfl, hn, hI, hb, hq⟩ := hrel
    by_cases hlt : k < l0.length
    · obtain ⟨ad, A2, c2, A3, c3, A4, c4, e, x0, x1, x2, x3, x4, l2, g2, l3, g3, l4, g4⟩ := at_T43 hr0 k (by omega) (by omega)
      cases e
      rw [rd43 hlt] at x0 x1 x2 x3 x4 l2 g2 l3 g3 l4 g4
      replace x0 := (hb.cell (World.block_lt_of_cell? w _ x0)).trans x0
      replace x1 := (hb.cell (World.block_lt_of_cell? w _ x1)).trans x1
      replace x2 := (hb.cell (World.block_lt_of_cell? w _ x2)).trans x2
      replace x3 := (hb.cell (World.block_lt_of_cell? w _ x3)).trans x3
      replace x4 := (hb.cell (World.block_lt_of_cell? w _ x4)).trans x4
      have hE := hev _ (List.getElem_mem hlt)
      have hqs := hq.out
      rw [List.drop_eq_getElem_cons hlt, replayM] at hqs
      obtain ⟨x, hx⟩ : ∃ x, x = l0[k] := ⟨_, rfl⟩
      rw [← hx] at x0 x1 x2 x3 x4 l2 g2 l3 g3 l4 g4 hE hqs
      simp only [Int.toNat_natCast] at x0 x1 x2 x3 x4
      have Hqs := Lib.hid hqs
      clear hx hq hqs
      have HL2 := Lib.hid l2
      have HL3 := Lib.hid l3
      have HL4 := Lib.hid l4
      clear l2 l3 l4
      obtain ⟨xk, xs, xw, xa, xy⟩ := x
      have hblt := hI.lt
      have HE := Lib.hid hE
      clear hE
      have moves : ∀ (o : Obj) (W : World), (wr.alloc o).grownBy W (some w.heap.size) → Below w.heap.size w W := fun o W hg => pw_below_grown (below_alloc hb o) _ (below_alloc hb o).size hg (fun j hj => by cases hj; exact Nat.le_refl _)
      by_cases h1 : xk = 1
      · subst h1
        go_wp2_with fail
        refine (atom_Commit (w.heap.size + 1) w.heap.size n M xs _ c2 xw _ (hI.below (below_alloc (Below.refl _ _) _)) (fun W hg => Kd.C_below g2 (moves _ W hg)) HE.out.kw (bound_n hn hkl hlen HE.out.w)).mono ?_
        rintro e w2 ⟨rfl, hA2, hg2⟩
        have hb2 := moves _ _ hg2
        clear hg2 moves
        go_wp2
        go_roundw
        case rel =>
          refine ⟨k + 1, n + xw.length, _, hlt, by simp, ?_, hA2, hb2, ⟨?_⟩⟩
          · have := HE.out.w
            simp only at this
            omega
          · have h := Hqs.out
            rw [if_neg (by simp [fails])] at h
            exact h
        case measure => simp [intOf]; omega
      · by_cases h3 : xk = 3
        · subst h3
          go_wp2_with fail
          refine (atom_Forget (w.heap.size + 1) w.heap.size n M _ c4 xy _ (hI.below (below_alloc (Below.refl _ _) _)) (fun W hg => Kd.C_below g4 (moves _ W hg)) HE.out.kk (bound_k HE.out.k)).mono ?_
          rintro e w2 ⟨rfl, hA2, hg2⟩
          have hb2 := moves _ _ hg2
          clear hg2 moves
          go_wp2
          go_roundw
          case rel =>
            refine ⟨k + 1, n, _, hlt, by simp, Nat.le_trans hn (Nat.mul_le_mul_right _ (Nat.le_succ k)), hA2, hb2, ⟨?_⟩⟩
            have h := Hqs.out
            rw [if_neg (by simp [fails])] at h
            exact h
          case measure => simp [intOf]; omega
        · by_cases h2 : xk = 2
          · subst h2
            go_wp2_with fail
            obtain ⟨O, hO⟩ : ∃ O : Obj, O = Obj.cells #[.int .i64 2, .int .u32 xs, .slice A2 xw.length c2, .slice A3 xa.length c3, .slice A4 xy.length c4] 43 := ⟨_, rfl⟩
            have hI0 := hI.below (below_alloc (Below.refl _ _) O)
            have hb0 := below_alloc hb O
            have z3 : (wr.alloc O).cell? ⟨wr.heap.size, 3, none⟩ = some (.slice A3 xa.length c3) := by
              have h := Lib.cell_of_heap (heap_alloc_new wr (Obj.cells #[.int .i64 2, .int .u32 xs, .slice A2 xw.length c2, .slice A3 xa.length c3, .slice A4 xy.length c4] 43)) 3
              rw [hO, h]
              rfl
            have hz0 : wr.heap.size < (wr.alloc O).heap.size := by simp
            rw [← hO]
            clear hO moves x0 x1 x2 x3 x4 g2 g4
            generalize wr.alloc O = W0 at hI0 hb0 z3 hz0 ⊢
            have hal := HE.out.a
            simp only at hal
            obtain ⟨wo, rfl⟩ : ∃ wo : World, wo = wr := ⟨_, rfl⟩
            go_loopw [7, 39] (fun v i wi => ∃ j : Nat, j ≤ xa.length ∧ i = .int .i64 j ∧ Kd.R Kd.string 9 wi W0.heap.size (fun _ => True) v (asked (xa.take j)) ∧ Below W0.heap.size W0 wi) (fun _ i _ => xa.length - (intOf i).toNat)
            case atStart => exact ⟨0, Nat.zero_le _, rfl, Kd.R_nil _ _ _ _ _, Below.refl _ _⟩
            case round =>
              obtain ⟨j, hjl, rfl, hR, hbi⟩ := hrel
              have hbm : Below w.heap.size w wr := below_then hb0 hb0.size hbi
              by_cases hlj : j < xa.length
              · obtain ⟨ad3, e3, y0, y1, y2, y3⟩ := at_T98 g3 j (by omega) (by omega)
                cases e3
                rw [rd98 hlj] at y0 y1 y2 y3
                replace y0 := (hbm.cell (World.block_lt_of_cell? w _ y0)).trans y0
                replace y1 := (hbm.cell (World.block_lt_of_cell? w _ y1)).trans y1
                replace y2 := (hbm.cell (World.block_lt_of_cell? w _ y2)).trans y2
                replace y3 := (hbm.cell (World.block_lt_of_cell? w _ y3)).trans y3
                have hsn : asked (xa.take (j + 1)) = asked (xa.take j) ++ [xa[j].f0] := by
                  rw [List.take_succ_eq_append_getElem hlj]
                  simp only [asked, List.map_append, List.map_cons, List.map_nil]
                obtain ⟨y, hy⟩ : ∃ y, y = xa[j] := ⟨_, rfl⟩
                rw [← hy] at y0 y1 y2 y3 hsn
                simp only [Int.toNat_natCast] at y0 y1 y2 y3
                have Hsn := Lib.hid hsn
                clear hsn hy
                obtain ⟨yk, yi, yv, yf⟩ := y
                have hlen2 : (asked (xa.take j)).length ≤ 1048576 := by simp only [asked, List.length_map]; have := List.length_take_le j xa; omega
                go_wp2_with (at_builtin; refine Kd.R_append Kd.string (w0 := W0) W0.heap.size rfl (.tmp 43) (.tmp 46) 22 9 (.string ⟨#[]⟩) 16 rfl Tryd.underlying22 info9 rfl (by decide) (by omega) u7 (asked (xa.take j)) yk [.string yk] (fun _ => True) (fun _ => False) rfl (by first | (go_simp; done) | (go_simp; rfl)) rfl (fun _ hk => hk.elim) (fun _ _ => trivial) (Kd.R_alloc hR _) (below_alloc hbi _) (below_alloc hbi _).size ?aL ?_)
                case aL => omega
                intro v1 w4 hR1 hb1 _ _
                have hR2 : Kd.R Kd.string 9 w4 W0.heap.size (fun _ => True) v1 (asked (xa.take (j + 1))) := by rw [Hsn.out]; exact hR1
                clear hR hR1
                go_wp2
                go_roundw
                case rel => exact ⟨j + 1, hlj, by simp, hR2, hb1⟩
                case measure => simp [intOf]; omega
              · have hje : j = xa.length := by omega
                subst hje
                rw [List.take_length] at hR
                have hIa := hI0.below hbi
                have z4 := (hbi.cell (p := ⟨wo.heap.size, 3, none⟩) hz0).trans z3
                obtain ⟨Aa, ca, ea⟩ := Kd.R_slice hR
                subst ea
                obtain ⟨_, hca, hCa⟩ := Kd.R_reads' hR
                have hask : (asked xa).length = xa.length := by simp [asked]
                have hgl : (getM M (asked xa)).length = xa.length := by simp [asked, getM]
                have step : ∀ w3, Below wr.heap.size wr w3 → Calls Tryd.prog 76 #[.pointer (some ⟨w.heap.size + 1, 0, none⟩), .slice Aa (asked xa).length ca] w3 fun e w' => ∃ A c, e = .returned (.slice A (getM M (asked xa)).length c) ∧ ((getM M (asked xa)).length ≤ c ∧ Kd.C k98 w' A (getM M (asked xa)).length (getM M (asked xa))) ∧ Below wr.heap.size wr w' := by
                  intro w3 h3
                  refine (atom_Get _ _ n M Aa ca (asked xa) w3 (hIa.below h3) (Kd.C_below hCa h3) HE.out.ka (by omega)).mono ?_
                  rintro e w4 ⟨v, rfl, hRv, hb4⟩
                  obtain ⟨A, c, rfl⟩ := Kd.R_slice hRv
                  exact ⟨A, c, rfl, (Kd.R_reads' hRv).2, below_then h3 h3.size hb4⟩
                have step2 : ∀ w3 A c, Below wr.heap.size wr w3 → (getM M (asked xa)).length ≤ c → Kd.C k98 w3 A (getM M (asked xa)).length (getM M (asked xa)) → Calls Tryd.prog 75 #[.slice A (getM M (asked xa)).length c, .slice A3 xa.length c3] w3 fun e w' => e = .returned (.bool (sameA (getM M (asked xa)) xa)) ∧ Below wr.heap.size wr w' := by
                  intro w3 A c h3 hc hC
                  exact (api_Answer.calls (xa.length + 1) A c _ A3 c3 xa _ w3 hC hc (Kd.C_below g3 (below_then hbm hbm.size h3)) HL3.out (api_f _ _ (by omega) _ (by omega))).mono (fun e w' h => ⟨h.1, below_then h3 h3.size h.2.below⟩)
                have Hgl := Lib.hid hgl
                have Hask := Lib.hid hask
                clear hgl hask
                obtain ⟨sb, hsb⟩ : ∃ sb, sb = sameA (getM M (asked xa)) xa := ⟨_, rfl⟩
                rw [← hsb] at step2
                have Hsb := Lib.hid hsb
                clear hsb
                have zz : ∀ W, Below wr.heap.size wr W → W.cell? ⟨wo.heap.size, 3, none⟩ = some (.slice A3 xa.length c3) := fun W hW => (hW.cell (p := ⟨wo.heap.size, 3, none⟩) (Nat.lt_of_lt_of_le hz0 hbi.size)).trans z4
                go_wp2_with fail
                go_region_held3 (fun w' => w'.cell? ⟨wo.heap.size, 3, none⟩ = some (.slice A3 xa.length c3)) (exact zz _ (by first | assumption | exact Below.refl _ _ | exact (Below.refl _ _).drew | exact Below.drew (by assumption)))
                  (first | (go_at_call 76; refine (step _ (by first | assumption | exact Below.refl _ _ | exact (Below.refl _ _).drew | exact Below.drew (by assumption))).mono ?_; rintro e w4 ⟨A, c, rfl, ⟨hcc, hCC⟩, hb4⟩) | (go_at_call 75; refine (step2 _ _ _ (by assumption) (by assumption) (by assumption)).mono ?_; rintro e w5 ⟨rfl, hd⟩))
                have hbf : Below w.heap.size w w5 := below_then hbm hbm.size hd
                have hIf := hIa.below hd
                clear step step2 zz
                cases sb
                · have h := Hqs.out
                  rw [if_pos (by simp [fails, ← Hsb.out])] at h
                  simp only [Prod.mk.injEq] at h
                  obtain ⟨rfl, rfl⟩ := h
                  go_wp2
                  go_ret2
                  exact ⟨rfl, hbf⟩
                · go_wp2
                  go_roundw
                  case rel =>
                    refine ⟨k + 1, n, _, hlt, by simp, Nat.le_trans hn (Nat.mul_le_mul_right _ (Nat.le_succ k)), hIf, hbf, ⟨?_⟩⟩
                    have h := Hqs.out
                    rw [if_neg (by simp [fails, ← Hsb.out])] at h
                    exact h
                  case measure => simp [intOf]; omega
          · have t1 : (xk == 1) = false := beq_eq_false_iff_ne.2 h1
            have t3 : (xk == 3) = false := beq_eq_false_iff_ne.2 h3
            have t2 : (xk == 2) = false := beq_eq_false_iff_ne.2 h2
            have Hst : Hid (stepM ⟨xk, xs, xw, xa, xy⟩ M = M ∧ fails ⟨xk, xs, xw, xa, xy⟩ M = false) := Lib.hid ⟨by simp [stepM, h1, h3], by simp [fails, h2]⟩
            clear h1 h3 h2 moves
            go_wp2
            go_roundw
            case rel =>
              refine ⟨k + 1, n, M, hlt, by simp, Nat.le_trans hn (Nat.mul_le_mul_right _ (Nat.le_succ k)), hI.below (below_alloc (Below.refl _ _) _), below_alloc hb _, ⟨?_⟩⟩
              have h := Hqs.out
              rw [if_neg (by rw [Hst.out.2]; decide), Hst.out.1] at h
              exact h
            case measure => simp [intOf]; omega
    · have hke : k = l0.length := by omega
      subst hke
      have hqs := hq.out
      rw [List.drop_length, replayM] at hqs
      simp only [Prod.mk.injEq] at hqs
      obtain ⟨rfl, rfl⟩ := hqs
      clear hq
      go_wp2
      go_ret2
      exact ⟨rfl, hb⟩
end Go.Proofs.YtfaelejeihmgcaaDoor.Lgx
end

section
namespace Go.Proofs.YtfaelejeihmgcaaDoor.Lgx
open Go.RowKit Go.Proofs.YtfaelejeihmgcaaDoorW.PrintWords Go.Proofs.YtfaelejeihmgcaaDoorW.PrintLast Go.Proofs.YtfaelejeihmgcaaDoorW.PrintMore
attribute [local go_sem] max2_int min2_int max_two min_two max_three min_three max_four min_four   -- for this text's walks alone
set_option linter.unusedVariables false
set_option linter.unusedSimpArgs false
def cachepotlaw21_alive.f (k : Nat)  : Option (Bool) := (ledger_Replay.f (([(⟨2, 0, ([] : List (S101)), (([(⟨(⟨#[97]⟩ : ByteArray), true, (⟨#[]⟩ : ByteArray), 0⟩ : S98)] : List (S98))), ([] : List ByteArray)⟩ : S43)] : List (S43)))).bind fun bt299 => ((ledger_Line.f k 3 0 ([] : List (S101)) ([] : List (S98)) (([(⟨#[97]⟩ : ByteArray)] : List ByteArray))).bind fun t304 => (if t304.toList = ([102, 111, 114, 103, 111, 116, 32, 54, 49] : List UInt8) then (if bt299.1 = 0 then (some (!bt299.2)) else (some false)) else (some false)))
def cachepotlaw21_LedgerLines.j0 : Nat → Bool → Int → Int → List (S101) → List (S98) → List ByteArray → Option (Bool)
  | 0, _, _, _, _, _, _ => none
  | k + 1, x18, x306000, x306001, x306002, x306003, x306004 => if x18 = true then ((cachepotlaw21_alive.f k).bind fun t306 => (some t306)) else ((cachepotlaw21_alive.f k).bind fun t307 => (if t307 = true then ((ledger_Line.f k x306000 x306001 x306002 x306003 x306004).bind fun t308 => ((cachepotref3_Line.f k x306000 x306001 x306002 x306003 x306004).bind fun t309 => (some (t308.toList == t309.toList)))) else (some false)))
def cachepotlaw21_LedgerLines.f (k : Nat) (a0_0 : Int) (a0_1 : Int) (l0_2 : List (S101)) (l0_3 : List (S98)) (l0_4 : List ByteArray) : Option (Bool) := if (l0_2.length : Int) > 40 then (cachepotlaw21_LedgerLines.j0 k true a0_0 a0_1 l0_2 l0_3 l0_4) else (if (l0_3.length : Int) > 40 then (cachepotlaw21_LedgerLines.j0 k true a0_0 a0_1 l0_2 l0_3 l0_4) else (cachepotlaw21_LedgerLines.j0 k (decide ((l0_4.length : Int) > 40)) a0_0 a0_1 l0_2 l0_3 l0_4))
def cachepothand_Keys.l0 : Nat → List Int → Int → List ByteArray → Int → Option (List ByteArray)
  | 0, _, _, _, _ => none
  | k + 1, x0, x1, x5, x6 => if x6 < (x0.length : Int) then (if x6 < x1 then (if 0 ≤ x6 then ((cachepothand_Key.f (rd x0 x6)).bind fun t311 => (if x5.length < 8796093022208 then (cachepothand_Keys.l0 k x0 x1 (x5 ++ [t311]) (wrap64 (x6 + 1))) else (none))) else (none)) else (some x5)) else (some x5)
def cachepothand_Keys.f (k : Nat) (l0 : List Int) (a1 : Int) : Option (List ByteArray) := cachepothand_Keys.l0 k l0 a1 ([] : List ByteArray) 0
set_option maxHeartbeats 8000000 in
set_option maxRecDepth 100000 in
theorem cachepothand_Keys.calls (k : Nat) (A0 : Option Addr) (c0 : Nat) (l0 : List Int) (a1 : Int) (r : List ByteArray) (w : World) (hr0 : Kd.C (Kd.int .i64) w A0 l0.length l0) (hc0 : l0.length ≤ c0) (h : cachepothand_Keys.f k l0 a1 = some r) (hT : Tabs w) :
    Calls Tryd.prog 66 #[.slice A0 l0.length c0, .int .i64 a1] w fun e w' => ∃ v0_ : Value, e = .returned (v0_) ∧ Kd.R Kd.string 9 w' w.heap.size (fun _ => True) v0_ r ∧ Below w.heap.size w w' := by
  have HR0 := Aside0.mk hr0
  have HC0 := Aside0.mk hc0
  clear hr0 hc0
  have HB := Aside0.mk (Below.refl w.heap.size w)
  have H : (cachepothand_Keys.l0 k l0 a1 ([] : List ByteArray) 0) = some r := h
  clear h
  have H' := Aside0.mk H
  clear H
  go_enter Tryd.func66, Tryd.ntmps66
  go_wp2
  go_loopg [5, 6] k (fun kq v5 v6 w' => ∃ (x5_1 : List ByteArray) (x6_1 : Int), v6 = .int .i64 x6_1 ∧ Aside0 (cachepothand_Keys.l0 kq l0 a1 x5_1 x6_1 = some r) ∧ Aside0 (kq ≤ k) ∧ Aside0 (Kd.R Kd.string 9 w' w.heap.size (fun _ => True) v5 x5_1) ∧ Aside0 (Below w.heap.size w w'))
  case atStart => exact ⟨(([] : List ByteArray)), (0), (by first | rfl | (simp; done) | (simp [*]; done)), H', ⟨Nat.le_refl _⟩, ⟨by first | exact Kd.R_nil _ _ _ _ _ | exact Kd.N_nil _ _ _ _ _ | exact Kd.V_nil _ _ _ _ _ | exact Kd.Q_nil _ _ _ _ _ | exact Kd.S_nil _ _ _ _ _⟩, ⟨by repeat (first | (with_reducible first | exact HB.out | apply below_alloc | apply pw_below_drewN | apply below_drew1) | exact HB.out)⟩⟩
  case round =>
    clear H'
    try clear p2
    obtain ⟨x5_1, x6_1, rfl, HA, HK1, HO_5, HB⟩ := hrel
    cases gk with
    | zero => exact absurd HA.out (by simp [cachepothand_Keys.l0])
    | succ k1 =>
      have H := HA.out
      clear HA
      simp only [cachepothand_Keys.l0] at H
      by_cases c3 : x6_1 < (l0.length : Int)
      · rw [if_pos c3] at H
        have c3b0 : decide (x6_1 < (l0.length : Int)) = true := decide_eq_true c3
        clear c3
        by_cases c4 : x6_1 < a1
        · rw [if_pos c4] at H
          have c4b0 : decide (x6_1 < a1) = true := decide_eq_true c4
          clear c4
          by_cases c5 : 0 ≤ x6_1
          · rw [if_pos c5] at H
            have c5b0 : decide (0 ≤ x6_1) = true := decide_eq_true c5
            clear c5
            replace H := Option.bind_eq_some_iff.mp H
            obtain ⟨t311, A60, H⟩ := H
            replace H : (if x5_1.length < 8796093022208 then (cachepothand_Keys.l0 k1 l0 a1 (x5_1 ++ [t311]) (wrap64 (x6_1 + 1))) else (none)) = some r := H
            have A6 := Aside0.mk A60
            clear A60
            by_cases c7 : x5_1.length < 8796093022208
            · rw [if_pos c7] at H
              have LMc7 := Aside0.mk c7
              clear c7
              obtain ⟨y312, hy312⟩ : ∃ y_ : List ByteArray, y_ = (x5_1 ++ [t311]) := ⟨_, rfl⟩
              replace H : (cachepothand_Keys.l0 k1 l0 a1 y312 (wrap64 (x6_1 + 1))) = some r := by first | (rw [hy312]; with_reducible exact H) | (have H2_ := (Option.bind_some _ _).symm.trans H; rw [hy312]; with_reducible exact H2_) | (have H2_ := (Option.bind_some _ _).symm.trans H; with_reducible exact H2_) | with_reducible exact H | (rw [hy312]; exact H) | exact H
              have Ny312 := Aside0.mk hy312
              clear hy312
              have H' := Aside0.mk H
              clear H
              have p310 : 0 ≤ (x6_1 : Int) := of_decide_eq_true (by first | (with_reducible assumption) | assumption)
              have q310 : x6_1 < (l0.length : Int) := of_decide_eq_true (by first | (with_reducible assumption) | assumption)
              obtain ⟨ad310, e310, hx310_0⟩ := Kd.at_int HR0.out x6_1 p310 q310
              cases e310
              replace hx310_0 := (HB.out.cell (World.block_lt_of_cell? w _ hx310_0)).trans hx310_0
              replace p310 := eq_true p310
              replace q310 := eq_true q310
              go_wp2_with (first | ((with_reducible refine gate_callee (f := 50) rfl ?_); refine goesL_ (some 23) rfl rfl Tryd.func50 (by kernel_rfl) rfl #[.int .i64 (rd l0 x6_1)] rfl (by (try simp only [List.map_toArray, List.map_cons, List.map_nil]); first | done | rfl | (simp only [List.length_drop, List.length_take]; rfl)) ?_; (with_reducible refine (cachepothand_Key.calls (rd l0 x6_1) t311 _ A6.out (by first | exact hT | (refine Tabs.below hT ?_; (repeat (first | (with_reducible first | exact HB.out | exact Below.refl _ _ | apply below_alloc | apply pw_below_drewN | apply below_drew1) | exact HB.out))))).mono ?_); rintro e w8 ⟨rfl, hb⟩; refine ⟨_, rfl, ?_⟩; have n0_ := Aside0.mk (Kd.R_below (by (with_reducible repeat (first | apply Kd.R_alloc | apply Kd.R_drewN | apply Kd.R_drew)); exact HO_5.out) hb); have n1_ := Aside0.mk (below_step (by repeat (first | (with_reducible first | exact HB.out | apply below_alloc | apply pw_below_drewN | apply below_drew1) | exact HB.out)) hb); clear HO_5; clear HB; have HO_5 := n0_; have HB := n1_; clear n0_ n1_; (try clear hb); (try clear hb2); (try clear hk); (try clear hi)) | ((with_reducible refine gate_builtin (b := .append) (xs := #[.tmp 18, .tmp 24]) rfl ?_); at_builtin; refine Kd.R_append Kd.string (w0 := w) w.heap.size rfl (.tmp 18) (.tmp 24) 22 9 (.string ⟨#[]⟩) 16 rfl Tryd.underlying22 info9 rfl (by decide) (by omega) u5 x5_1 t311 [.string t311] (fun _ => True) (fun _ => False) rfl rfl ?aP (fun _ hk => hk.elim) ?aF ?aO ?aB ?aS ?aL ?_; (case aP => exact rfl); (case aB => exact (by repeat (first | (with_reducible first | exact HB.out | apply below_alloc | apply pw_below_drewN | apply below_drew1) | exact HB.out))); (case aF => exact (fun _ _ => trivial)); (case aO => exact (by (with_reducible repeat (first | apply Kd.R_alloc | apply Kd.R_drewN | apply Kd.R_drew)); exact HO_5.out)); (case aS => exact (below_size (by repeat (first | (with_reducible first | exact HB.out | apply below_alloc | apply pw_below_drewN | apply below_drew1) | exact HB.out)))); (case aL => have := LMc7.out; omega); intro v313 w9 ho hb hg hat; rw [← Ny312.out] at ho; have n0_ := Aside0.mk (hb); have n1_ := Aside0.mk (ho); clear HB; clear HO_5; have HB := n0_; have HO314 := n1_; clear n0_ n1_; clear ho hb hg hat))
              go_roundg k1
              case measure => have := HK1.out; omega
              case rel => exact ⟨(y312), (wrap64 (x6_1 + 1)), (by first | rfl | (simp; done) | (simp [*]; done)), H', ⟨by have := HK1.out; omega⟩, ⟨by (with_reducible repeat (first | apply Kd.R_alloc | apply Kd.R_drewN | apply Kd.R_drew)); exact HO314.out⟩, ⟨by repeat (first | (with_reducible first | exact HB.out | apply below_alloc | apply pw_below_drewN | apply below_drew1) | exact HB.out)⟩⟩
            · rw [if_neg c7] at H
              exact absurd H (by simp)
          · rw [if_neg c5] at H
            exact absurd H (by simp)
        · rw [if_neg c4] at H
          have c4b0 : decide (x6_1 < a1) = false := decide_eq_false c4
          clear c4
          obtain rfl := Option.some.inj H
          go_wp2
          go_ret
          exact ⟨_, by first | rfl | (simp [errW_none, errW_some] <;> rfl) | (simp [*, errW_none, errW_some] <;> rfl), by (with_reducible repeat (first | apply Kd.R_alloc | apply Kd.R_drewN | apply Kd.R_drew)); exact HO_5.out, by repeat (first | (with_reducible first | exact HB.out | apply below_alloc | apply pw_below_drewN | apply below_drew1) | exact HB.out)⟩
      · rw [if_neg c3] at H
        have c3b0 : decide (x6_1 < (l0.length : Int)) = false := decide_eq_false c3
        clear c3
        obtain rfl := Option.some.inj H
        go_wp2
        go_ret
        exact ⟨_, by first | rfl | (simp [errW_none, errW_some] <;> rfl) | (simp [*, errW_none, errW_some] <;> rfl), by (with_reducible repeat (first | apply Kd.R_alloc | apply Kd.R_drewN | apply Kd.R_drew)); exact HO_5.out, by repeat (first | (with_reducible first | exact HB.out | apply below_alloc | apply pw_below_drewN | apply below_drew1) | exact HB.out)⟩
def cachepotref1_BatchKeys.l0 : Nat → List (S101) → List ByteArray → Int → Option (List ByteArray)
  | 0, _, _, _ => none
  | k + 1, x0, x3, x4 => if x4 < (x0.length : Int) then (if 0 ≤ x4 then (if x3.length < 8796093022208 then (cachepotref1_BatchKeys.l0 k x0 (x3 ++ [(rd_T101 x0 x4).f0]) (wrap64 (x4 + 1))) else (none)) else (none)) else ((cachepotref1_KeysSorted.f x3).bind fun t319 => (some t319))
def cachepotref1_BatchKeys.f (k : Nat) (l0 : List (S101)) : Option (List ByteArray) := cachepotref1_BatchKeys.l0 k l0 ([] : List ByteArray) 0
set_option maxHeartbeats 8000000 in
set_option maxRecDepth 100000 in
theorem cachepotref1_BatchKeys.calls (k : Nat) (A0 : Option Addr) (c0 : Nat) (l0 : List (S101)) (r : List ByteArray) (w : World) (hr0 : Kd.C k101 w A0 l0.length l0) (hc0 : l0.length ≤ c0) (h : cachepotref1_BatchKeys.f k l0 = some r) :
    Calls Tryd.prog 120 #[.slice A0 l0.length c0] w fun e w' => ∃ v0_ : Value, e = .returned (v0_) ∧ Kd.R Kd.string 9 w' w.heap.size (fun _ => True) v0_ r ∧ Below w.heap.size w w' := by
  have HR0 := Aside0.mk hr0
  have HC0 := Aside0.mk hc0
  clear hr0 hc0
  have HB := Aside0.mk (Below.refl w.heap.size w)
  have H : (cachepotref1_BatchKeys.l0 k l0 ([] : List ByteArray) 0) = some r := h
  clear h
  have H' := Aside0.mk H
  clear H
  go_enter Tryd.func120, Tryd.ntmps120
  go_wp2
  go_loopg [3, 4] k (fun kq v3 v4 w' => ∃ (x3_1 : List ByteArray) (x4_1 : Int), v4 = .int .i64 x4_1 ∧ Aside0 (cachepotref1_BatchKeys.l0 kq l0 x3_1 x4_1 = some r) ∧ Aside0 (kq ≤ k) ∧ Aside0 (Kd.R Kd.string 9 w' w.heap.size (fun _ => True) v3 x3_1) ∧ Aside0 (Below w.heap.size w w'))
  case atStart => exact ⟨(([] : List ByteArray)), (0), (by first | rfl | (simp; done) | (simp [*]; done)), H', ⟨Nat.le_refl _⟩, ⟨by first | exact Kd.R_nil _ _ _ _ _ | exact Kd.N_nil _ _ _ _ _ | exact Kd.V_nil _ _ _ _ _ | exact Kd.Q_nil _ _ _ _ _ | exact Kd.S_nil _ _ _ _ _⟩, ⟨by repeat (first | (with_reducible first | exact HB.out | apply below_alloc | apply pw_below_drewN | apply below_drew1) | exact HB.out)⟩⟩
  case round =>
    clear H'
    try clear c1
    obtain ⟨x3_1, x4_1, rfl, HA, HK1, HO_3, HB⟩ := hrel
    cases gk with
    | zero => exact absurd HA.out (by simp [cachepotref1_BatchKeys.l0])
    | succ k1 =>
      have H := HA.out
      clear HA
      simp only [cachepotref1_BatchKeys.l0] at H
      by_cases c2 : x4_1 < (l0.length : Int)
      · rw [if_pos c2] at H
        have c2b0 : decide (x4_1 < (l0.length : Int)) = true := decide_eq_true c2
        clear c2
        by_cases c3 : 0 ≤ x4_1
        · rw [if_pos c3] at H
          have c3b0 : decide (0 ≤ x4_1) = true := decide_eq_true c3
          clear c3
          by_cases c4 : x3_1.length < 8796093022208
          · rw [if_pos c4] at H
            have LMc4 := Aside0.mk c4
            clear c4
            obtain ⟨y316, hy316⟩ : ∃ y_ : List ByteArray, y_ = (x3_1 ++ [(rd_T101 l0 x4_1).f0]) := ⟨_, rfl⟩
            replace H : (cachepotref1_BatchKeys.l0 k1 l0 y316 (wrap64 (x4_1 + 1))) = some r := by first | (rw [hy316]; with_reducible exact H) | (have H2_ := (Option.bind_some _ _).symm.trans H; rw [hy316]; with_reducible exact H2_) | (have H2_ := (Option.bind_some _ _).symm.trans H; with_reducible exact H2_) | with_reducible exact H | (rw [hy316]; exact H) | exact H
            have Ny316 := Aside0.mk hy316
            clear hy316
            have H' := Aside0.mk H
            clear H
            have p315 : 0 ≤ (x4_1 : Int) := of_decide_eq_true (by first | (with_reducible assumption) | assumption)
            have q315 : x4_1 < (l0.length : Int) := of_decide_eq_true (by first | (with_reducible assumption) | assumption)
            obtain ⟨ad315, e315, hx315_0, hx315_1, hx315_2⟩ := at_T101 HR0.out x4_1 p315 q315
            cases e315
            replace hx315_0 := (HB.out.cell (World.block_lt_of_cell? w _ hx315_0)).trans hx315_0
            replace hx315_1 := (HB.out.cell (World.block_lt_of_cell? w _ hx315_1)).trans hx315_1
            replace hx315_2 := (HB.out.cell (World.block_lt_of_cell? w _ hx315_2)).trans hx315_2
            replace p315 := eq_true p315
            replace q315 := eq_true q315
            go_wp2_with (first | ((with_reducible refine gate_builtin (b := .append) (xs := #[.tmp 11, .tmp 17]) rfl ?_); at_builtin; refine Kd.R_append Kd.string (w0 := w) w.heap.size rfl (.tmp 11) (.tmp 17) 22 9 (.string ⟨#[]⟩) 16 rfl Tryd.underlying22 info9 rfl (by decide) (by omega) u3 x3_1 ((rd_T101 l0 x4_1).f0) [.string ((rd_T101 l0 x4_1).f0)] (fun _ => True) (fun _ => False) rfl rfl ?aP (fun _ hk => hk.elim) ?aF ?aO ?aB ?aS ?aL ?_; (case aP => exact rfl); (case aB => exact (by repeat (first | (with_reducible first | exact HB.out | apply below_alloc | apply pw_below_drewN | apply below_drew1) | exact HB.out))); (case aF => exact (fun _ _ => trivial)); (case aO => exact (by (with_reducible repeat (first | apply Kd.R_alloc | apply Kd.R_drewN | apply Kd.R_drew)); exact HO_3.out)); (case aS => exact (below_size (by repeat (first | (with_reducible first | exact HB.out | apply below_alloc | apply pw_below_drewN | apply below_drew1) | exact HB.out)))); (case aL => have := LMc4.out; omega); intro v317 w5 ho hb hg hat; rw [← Ny316.out] at ho; have n0_ := Aside0.mk (hb); have n1_ := Aside0.mk (ho); clear HB; clear HO_3; have HB := n0_; have HO318 := n1_; clear n0_ n1_; clear ho hb hg hat))
            go_roundg k1
            case measure => have := HK1.out; omega
            case rel => exact ⟨(y316), (wrap64 (x4_1 + 1)), (by first | rfl | (simp; done) | (simp [*]; done)), H', ⟨by have := HK1.out; omega⟩, ⟨by (with_reducible repeat (first | apply Kd.R_alloc | apply Kd.R_drewN | apply Kd.R_drew)); exact HO318.out⟩, ⟨by repeat (first | (with_reducible first | exact HB.out | apply below_alloc | apply pw_below_drewN | apply below_drew1) | exact HB.out)⟩⟩
          · rw [if_neg c4] at H
            exact absurd H (by simp)
        · rw [if_neg c3] at H
          exact absurd H (by simp)
      · rw [if_neg c2] at H
        have c2b0 : decide (x4_1 < (l0.length : Int)) = false := decide_eq_false c2
        clear c2
        replace H := Option.bind_eq_some_iff.mp H
        obtain ⟨t319, A60, H⟩ := H
        replace H : (some t319) = some r := H
        have A6 := Aside0.mk A60
        clear A60
        obtain rfl := Option.some.inj H
        obtain ⟨Ao7, co7, eo7⟩ := Kd.R_slice HO_3.out
        subst eo7
        go_wp2_with (first | ((with_reducible refine gate_callee (f := 130) rfl ?_); refine goesL_ (some 20) rfl rfl Tryd.func130 (by kernel_rfl) rfl #[.slice Ao7 x3_1.length co7] rfl (by (try simp only [List.map_toArray, List.map_cons, List.map_nil]); first | done | rfl | (simp only [List.length_drop, List.length_take]; rfl)) ?_; (with_reducible refine (cachepotref1_KeysSorted.calls _ _ x3_1 t319 _ ?side1 ?side2 A6.out).mono ?_); (case side1 => repeat (first | exact (Kd.R_reads' HO_3.out).2.2 | (with_reducible refine Kd.C_alloc ?_ _) | (with_reducible refine Kd.C_drewN ?_ _) | (with_reducible refine Kd.C_drew ?_))); (case side2 => exact (Kd.R_reads' HO_3.out).2.1); rintro e w8 ⟨v320, rfl, ho0, hb⟩; refine ⟨_, rfl, ?_⟩; have n0_ := Aside0.mk (Kd.R_elder' (by (with_reducible repeat (first | apply Kd.R_alloc | apply Kd.R_drewN | apply Kd.R_drew)); exact HO_3.out) (Kd.R_base ho0) hb); have n1_ := Aside0.mk (Kd.R_lower (Kd.R_new' ho0 (Kd.R_lt (by (with_reducible repeat (first | apply Kd.R_alloc | apply Kd.R_drewN | apply Kd.R_drew)); exact HO_3.out))) (below_size (by repeat (first | (with_reducible first | exact HB.out | apply below_alloc | apply pw_below_drewN | apply below_drew1) | exact HB.out)))); have n2_ := Aside0.mk (below_step (by repeat (first | (with_reducible first | exact HB.out | apply below_alloc | apply pw_below_drewN | apply below_drew1) | exact HB.out)) hb); clear HO_3; clear HB; have HO_3 := n0_; have HO321 := n1_; have HB := n2_; clear n0_ n1_ n2_; (try clear hb); (try clear hb2); (try clear hk); (try clear hi); (try clear ho0)))
        go_ret
        exact ⟨_, by first | rfl | (simp [errW_none, errW_some] <;> rfl) | (simp [*, errW_none, errW_some] <;> rfl), by (with_reducible repeat (first | apply Kd.R_alloc | apply Kd.R_drewN | apply Kd.R_drew)); exact Kd.R_mono HO321.out (fun _ hk => trivial), by repeat (first | (with_reducible first | exact HB.out | apply below_alloc | apply pw_below_drewN | apply below_drew1) | exact HB.out)⟩
end Go.Proofs.YtfaelejeihmgcaaDoor.Lgx
end
