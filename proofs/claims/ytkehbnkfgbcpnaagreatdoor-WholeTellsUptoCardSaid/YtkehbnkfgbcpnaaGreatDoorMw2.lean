/-
  Texts of mine, and texts that print.sh and pp.py wrote, merged and cut to what is used: Wd2, HandH, HandF, HandI
-/
import Derived.Test.YtkehbnkfgbcpnaaGreatDoorProg
import Derived.Below
import Derived.Shelf.Unicode.DecodeSlow
import Derived.Lib.ItoaMem
import Derived.Lib.LaidTab
import Derived.Deep.Draws
import Derived.Deep.AppendLies
import Derived.Maps.AppendAt
import Derived.OwnWalk
import Derived.Laws.BytesArg
import Derived.Laws.MakeOwn
import Derived.Laws.OwnMore
import Derived.Deep.OwnRows
import Derived.Tactics
import Derived.Lib.ConvBytes
import Derived.Laws.Slices
import Derived.WalkKit
import Derived.KernelRfl
import Derived.RowKit3
import Derived.Deep.LoopGhost
import Derived.Deep.QuietTactic
import Derived.BigQuiet
import Derived.WideLaws
import Derived.Deep.DeepCutAuto
import Derived.Deep.CutBlock
import Derived.Deep.RegionHeld3
import Derived.Laws.Rows
import Derived.Lib.AppendStr
import Derived.ArgAppend
import Derived.Laws.IdiomCopy
import Derived.RowKit
import Derived.Test.YtkehbnkfgbcpnaaGreatDoorRows
import Derived.ChangeArms
import Derived.DataReads
import Derived.DataElems
import Derived.OrdersHeld
import Derived.Laws.BitsLemmas
import Derived.Laws.StructEq
import Derived.Test.YtkehbnkfgbcpnaaGreatDoorCards
import Derived.Test.YtkehbnkfgbcpnaaGreatDoorTie
import Derived.Lib.LaidU8T
import Derived.Lib.LaidU8
import Derived.PinnedBridge
import Derived.LaidMore
import Derived.Lay
import Derived.ProofKit
import Derived.OpenShut
import Derived.SevenTiedAt
import Derived.Stop.Joined
import Derived.Deep.DeepHandedRow
import Derived.SliceStrings
import Derived.Carry
import Derived.Shelf.Strings.Builder1
import Derived.Shelf.Strings.Builder2
import Derived.Shelf.Strings.OnBuilder
import Derived.Shelf.Strings.BuilderF
import Derived.Shelf.Strconv.Itoa0
import Derived.Shelf.Strconv.Itoa1
import Derived.Shelf.LaysM
import Derived.Shelf.Strconv.Itoa2
import Derived.Shelf.Strconv.Itoa3
import Derived.Shelf.Strings.Prefix
import Derived.Shelf.Unicode.Decode
import Derived.Shelf.Strings.Repeat
import Derived.Shelf.Unicode.DecodeAny
import Derived.Lib.Strings
import Derived.Lib.Slices
import Derived.Lib.Walk
import Derived.Lib.Builder
import Derived.Lib.UnsafeStr
import Derived.Laws.Externs
import Derived.Lib.DecodeNEq
import Derived.Lib.OthersKept
import Derived.Lib.Hide
import Derived.BigCall
import Derived.Outline
import Derived.StillTailTactics
import Derived.Lib.AppendIntMem
import Derived.FnData
import Derived.Tactics2
import Derived.BigGuard
import Derived.IntWalk
import Derived.WalkSpells
import Derived.Laws.Pointers
import Derived.Lib.Bytealg
import Derived.Lib.Repeat
import Derived.Laws.BytesString
import Derived.Laws.Cells
import Derived.Laws.Sem
import Derived.Laws.Strings
import Derived.Laws.World
import Derived.Orders
import Derived.Lib.Join
import Derived.Test.YtkehbnkfgbcpnaaGreatDoorMw0
import Derived.Test.YtkehbnkfgbcpnaaGreatDoorMw1

section
namespace Go.Proofs.YtkehbnkfgbcpnaaGreatDoor.Wd
open Go.RowKit Go.Proofs.YtkehbnkfgbcpnaaGreatDoorW.PrintWords Go.Proofs.YtkehbnkfgbcpnaaGreatDoorW.PrintLast Go.Proofs.YtkehbnkfgbcpnaaGreatDoorW.PrintMore
attribute [local go_sem] max2_int min2_int max_two min_two max_three min_three max_four min_four   -- for this text's walks alone
set_option linter.unusedVariables false
set_option linter.unusedSimpArgs false
mutual
def cachepotref1_Rune.j0 : Nat → ByteArray → Int → Int → Option (Int × Int)
  | 0, _, _, _ => none
  | k + 1, x0, x1, x6 => if x6 = 224 then (cachepotref1_Rune.j1 k x0 x1 x6 160 191) else (if x6 = 237 then (cachepotref1_Rune.j1 k x0 x1 x6 128 159) else (if x6 = 240 then (cachepotref1_Rune.j1 k x0 x1 x6 144 191) else (if x6 = 244 then (cachepotref1_Rune.j1 k x0 x1 x6 128 143) else (cachepotref1_Rune.j1 k x0 x1 x6 128 191))))
def cachepotref1_Rune.j1 : Nat → ByteArray → Int → Int → Int → Int → Option (Int × Int)
  | 0, _, _, _, _, _ => none
  | k + 1, x0, x1, x6, x7, x8 => if x6 ≥ 224 then (if x6 ≤ 239 then ((cachepotref1_follows.f x0 (wrap64 (x1 + 1)) x7 x8).bind fun t108 => (if t108 = true then ((cachepotref1_follows.f x0 (wrap64 (x1 + 2)) 128 191).bind fun t109 => (cachepotref1_Rune.j2 k x0 x1 x6 x7 x8 t109)) else (cachepotref1_Rune.j2 k x0 x1 x6 x7 x8 false))) else (cachepotref1_Rune.j2 k x0 x1 x6 x7 x8 false)) else (cachepotref1_Rune.j2 k x0 x1 x6 x7 x8 false)
def cachepotref1_Rune.j2 : Nat → ByteArray → Int → Int → Int → Int → Bool → Option (Int × Int)
  | 0, _, _, _, _, _, _ => none
  | k + 1, x0, x1, x6, x7, x8, x69 => if x69 = true then (if 0 ≤ (wrap64 (x1 + 1)) then (if (wrap64 (x1 + 1)) < (x0.size : Int) then (if 0 ≤ (wrap64 (x1 + 2)) then (if (wrap64 (x1 + 2)) < (x0.size : Int) then (some (wrap64 ((wrap64 ((wrap64 ((wrap64 (Go.bits .and .u8 x6 15)) * 4096)) + (wrap64 ((wrap64 (Go.bits .and .u8 (bt x0 (wrap64 (x1 + 1))) 63)) * 64)))) + (wrap64 (Go.bits .and .u8 (bt x0 (wrap64 (x1 + 2))) 63))), 3)) else (none)) else (none)) else (none)) else (none)) else (if x6 ≥ 240 then (if x6 ≤ 244 then ((cachepotref1_follows.f x0 (wrap64 (x1 + 1)) x7 x8).bind fun t110 => (if t110 = true then ((cachepotref1_follows.f x0 (wrap64 (x1 + 2)) 128 191).bind fun t111 => (if t111 = true then ((cachepotref1_follows.f x0 (wrap64 (x1 + 3)) 128 191).bind fun t112 => (if t112 = true then (if 0 ≤ (wrap64 (x1 + 1)) then (if (wrap64 (x1 + 1)) < (x0.size : Int) then (if 0 ≤ (wrap64 (x1 + 2)) then (if (wrap64 (x1 + 2)) < (x0.size : Int) then (if 0 ≤ (wrap64 (x1 + 3)) then (if (wrap64 (x1 + 3)) < (x0.size : Int) then (some (wrap64 ((wrap64 ((wrap64 ((wrap64 ((wrap64 (Go.bits .and .u8 x6 7)) * 262144)) + (wrap64 ((wrap64 (Go.bits .and .u8 (bt x0 (wrap64 (x1 + 1))) 63)) * 4096)))) + (wrap64 ((wrap64 (Go.bits .and .u8 (bt x0 (wrap64 (x1 + 2))) 63)) * 64)))) + (wrap64 (Go.bits .and .u8 (bt x0 (wrap64 (x1 + 3))) 63))), 4)) else (none)) else (none)) else (none)) else (none)) else (none)) else (none)) else (some (65533, 1)))) else (some (65533, 1)))) else (some (65533, 1)))) else (some (65533, 1))) else (some (65533, 1)))
end
def cachepotref1_Rune.f (k : Nat) (a0 : ByteArray) (a1 : Int) : Option (Int × Int) := if 0 ≤ a1 then (if a1 < (a0.size : Int) then (if (bt a0 a1) < 128 then (some (wrap64 (bt a0 a1), 1)) else (if (bt a0 a1) ≥ 194 then (if (bt a0 a1) ≤ 223 then ((cachepotref1_follows.f a0 (wrap64 (a1 + 1)) 128 191).bind fun t107 => (if t107 = true then (if 0 ≤ (wrap64 (a1 + 1)) then (if (wrap64 (a1 + 1)) < (a0.size : Int) then (some (wrap64 ((wrap64 ((wrap64 (Go.bits .and .u8 (bt a0 a1) 31)) * 64)) + (wrap64 (Go.bits .and .u8 (bt a0 (wrap64 (a1 + 1))) 63))), 2)) else (none)) else (none)) else (cachepotref1_Rune.j0 k a0 a1 (bt a0 a1)))) else (cachepotref1_Rune.j0 k a0 a1 (bt a0 a1))) else (cachepotref1_Rune.j0 k a0 a1 (bt a0 a1)))) else (none)) else (none)
set_option maxHeartbeats 8000000 in
set_option maxRecDepth 100000 in
theorem cachepotref1_Rune.calls (k : Nat) (a0 : ByteArray) (a1 : Int) (r1 : Int) (r2 : Int) (w : World) (h : cachepotref1_Rune.f k a0 a1 = some (r1, r2)) :
    Calls Tryz.prog 26 #[.string a0, .int .i64 a1] w fun e w' => e = .returned (.tuple #[.int .i64 r1, .int .i64 r2]) ∧ Drawn0 w w' := by
  have H : (if 0 ≤ a1 then (if a1 < (a0.size : Int) then (if (bt a0 a1) < 128 then (some (wrap64 (bt a0 a1), 1)) else (if (bt a0 a1) ≥ 194 then (if (bt a0 a1) ≤ 223 then ((cachepotref1_follows.f a0 (wrap64 (a1 + 1)) 128 191).bind fun t107 => (if t107 = true then (if 0 ≤ (wrap64 (a1 + 1)) then (if (wrap64 (a1 + 1)) < (a0.size : Int) then (some (wrap64 ((wrap64 ((wrap64 (Go.bits .and .u8 (bt a0 a1) 31)) * 64)) + (wrap64 (Go.bits .and .u8 (bt a0 (wrap64 (a1 + 1))) 63))), 2)) else (none)) else (none)) else (cachepotref1_Rune.j0 k a0 a1 (bt a0 a1)))) else (cachepotref1_Rune.j0 k a0 a1 (bt a0 a1))) else (cachepotref1_Rune.j0 k a0 a1 (bt a0 a1)))) else (none)) else (none)) = some (r1, r2) := h
  clear h
  by_cases c3 : 0 ≤ a1
  · rw [if_pos c3] at H
    have c3b0 : decide (0 ≤ a1) = true := decide_eq_true c3
    clear c3
    by_cases c4 : a1 < (a0.size : Int)
    · rw [if_pos c4] at H
      have c4b0 : decide (a1 < (a0.size : Int)) = true := decide_eq_true c4
      clear c4
      have HC6 := Aside0.mk H
      clear H
      have p5 : 0 ≤ (a1 : Int) := of_decide_eq_true (by first | (with_reducible assumption) | assumption)
      have q5 : a1 < (a0.size : Int) := of_decide_eq_true (by first | (with_reducible assumption) | assumption)
      have hx5 := bt_at a0 a1
      replace p5 := eq_true p5
      replace q5 := eq_true q5
      go_enter Tryz.func26, Tryz.ntmps26
      go_upto_block 0 with (fail)
      repeat (go_quiet (fail); go_upto_block 0 with (fail))
      go_cut [] (fun wc => ∃ (kq : Nat), Aside0 (cachepotref1_Rune.j0 kq a0 a1 (bt a0 a1) = some (r1, r2)) ∧ Aside0 (kq ≤ k) ∧ Drawn0 w wc)
      case first =>
        have H := HC6.out
        clear HC6
        by_cases c7 : (bt a0 a1) < 128
        · rw [if_pos c7] at H
          have c7b0 : decide ((bt a0 a1) < 128) = true := decide_eq_true c7
          clear c7
          (first | rw [c7b0] | (simp only [i64_w, i32_w]; rw [c7b0]) | skip)
          simp only [Option.some.injEq, Prod.mk.injEq] at H
          obtain ⟨rfl, rfl⟩ := H
          go_wp2
          repeat (go_quiet (fail); try go_wp2)
          go_ret2
          exact ⟨by first | rfl | (simp; done) | (simp [*]; done), by repeat (first | exact Drawn0.refl _ | apply Drawn0.step)⟩
        · rw [if_neg c7] at H
          have c7b0 : decide ((bt a0 a1) < 128) = false := decide_eq_false c7
          clear c7
          (first | rw [c7b0] | (simp only [i64_w, i32_w]; rw [c7b0]) | skip)
          by_cases c8 : (bt a0 a1) ≥ 194
          · rw [if_pos c8] at H
            have c8b0 : decide (194 ≤ (bt a0 a1)) = true := decide_eq_true c8
            clear c8
            by_cases c9 : (bt a0 a1) ≤ 223
            · rw [if_pos c9] at H
              have c9b0 : decide ((bt a0 a1) ≤ 223) = true := decide_eq_true c9
              clear c9
              replace H := Option.bind_eq_some_iff.mp H
              obtain ⟨t107, A100, H⟩ := H
              replace H : (if t107 = true then (if 0 ≤ (wrap64 (a1 + 1)) then (if (wrap64 (a1 + 1)) < (a0.size : Int) then (some (wrap64 ((wrap64 ((wrap64 (Go.bits .and .u8 (bt a0 a1) 31)) * 64)) + (wrap64 (Go.bits .and .u8 (bt a0 (wrap64 (a1 + 1))) 63))), 2)) else (none)) else (none)) else (cachepotref1_Rune.j0 k a0 a1 (bt a0 a1))) = some (r1, r2) := H
              have A10 := Aside0.mk A100
              clear A100
              by_cases c11 : t107 = true
              · subst c11
                have H1 : (if 0 ≤ (wrap64 (a1 + 1)) then (if (wrap64 (a1 + 1)) < (a0.size : Int) then (some (wrap64 ((wrap64 ((wrap64 (Go.bits .and .u8 (bt a0 a1) 31)) * 64)) + (wrap64 (Go.bits .and .u8 (bt a0 (wrap64 (a1 + 1))) 63))), 2)) else (none)) else (none)) = some (r1, r2) := by rw [if_pos rfl] at H; exact H
                clear H
                have H := H1
                clear H1
                obtain ⟨ji12, hji12⟩ : ∃ j_ : Int, (wrap64 (a1 + 1)) = j_ := ⟨_, rfl⟩
                replace H : (if 0 ≤ (ji12) then (if (ji12) < (a0.size : Int) then (some (wrap64 ((wrap64 ((wrap64 (Go.bits .and .u8 (bt a0 a1) 31)) * 64)) + (wrap64 (Go.bits .and .u8 (bt a0 (ji12)) 63))), 2)) else (none)) else (none)) = some (r1, r2) := by first | (rw [hji12] at H; exact H) | (simp only [hji12] at H ⊢; exact H)
                (try rw [hji12] at A10)
                have hji12w : (IntKind.i64.wrap (a1 + 1)) = ji12 := (i64_w _).trans hji12
                by_cases c13 : 0 ≤ (ji12)
                · rw [if_pos c13] at H
                  have c13b0 : decide (0 ≤ (ji12)) = true := decide_eq_true c13
                  clear c13
                  by_cases c14 : (ji12) < (a0.size : Int)
                  · rw [if_pos c14] at H
                    have c14b0 : decide ((ji12) < (a0.size : Int)) = true := decide_eq_true c14
                    clear c14
                    simp only [Option.some.injEq, Prod.mk.injEq] at H
                    obtain ⟨rfl, rfl⟩ := H
                    go_wp2_with (first | (go_at_call 39; (with_reducible refine (cachepotref1_follows.calls a0 ji12 128 191 true _ A10.out).mono ?_); rintro e w' ⟨rfl, ⟨nd, rfl⟩⟩; (try first | exact ⟨rfl, _, World.drewN_drewN _ _ _⟩ | exact ⟨rfl, _, Eq.trans (World.drewN_drewN _ _ _) (congrArg (World.drewN _) (Nat.add_assoc _ _ _))⟩); have p15 : 0 ≤ ((ji12) : Int) := of_decide_eq_true (by first | (with_reducible assumption) | assumption); have q15 : (ji12) < (a0.size : Int) := of_decide_eq_true (by first | (with_reducible assumption) | assumption); have hx15 := bt_at a0 (ji12); replace p15 := eq_true p15; replace q15 := eq_true q15))
                    repeat (go_quiet (first | (go_at_call 39; (with_reducible refine (cachepotref1_follows.calls a0 ji12 128 191 true _ A10.out).mono ?_); rintro e w' ⟨rfl, ⟨nd, rfl⟩⟩; (try first | exact ⟨rfl, _, World.drewN_drewN _ _ _⟩ | exact ⟨rfl, _, Eq.trans (World.drewN_drewN _ _ _) (congrArg (World.drewN _) (Nat.add_assoc _ _ _))⟩); have p15 : 0 ≤ ((ji12) : Int) := of_decide_eq_true (by first | (with_reducible assumption) | assumption); have q15 : (ji12) < (a0.size : Int) := of_decide_eq_true (by first | (with_reducible assumption) | assumption); have hx15 := bt_at a0 (ji12); replace p15 := eq_true p15; replace q15 := eq_true q15)); try go_wp2_with (first | (go_at_call 39; (with_reducible refine (cachepotref1_follows.calls a0 ji12 128 191 true _ A10.out).mono ?_); rintro e w' ⟨rfl, ⟨nd, rfl⟩⟩; (try first | exact ⟨rfl, _, World.drewN_drewN _ _ _⟩ | exact ⟨rfl, _, Eq.trans (World.drewN_drewN _ _ _) (congrArg (World.drewN _) (Nat.add_assoc _ _ _))⟩); have p15 : 0 ≤ ((ji12) : Int) := of_decide_eq_true (by first | (with_reducible assumption) | assumption); have q15 : (ji12) < (a0.size : Int) := of_decide_eq_true (by first | (with_reducible assumption) | assumption); have hx15 := bt_at a0 (ji12); replace p15 := eq_true p15; replace q15 := eq_true q15)))
                    go_ret2
                    exact ⟨by first | rfl | (simp; done) | (simp only [← hji12] <;> (first | rfl | simp)) | (simp [*]; done), by repeat (first | exact Drawn0.refl _ | apply Drawn0.step)⟩
                  · rw [if_neg c14] at H
                    exact absurd H (by simp)
                · rw [if_neg c13] at H
                  exact absurd H (by simp)
              · replace c11 := Bool.eq_false_iff.mpr c11
                subst c11
                have H1 : (cachepotref1_Rune.j0 k a0 a1 (bt a0 a1)) = some (r1, r2) := by rw [if_neg (show ¬ (false = true) by decide)] at H; exact H
                clear H
                have H := H1
                clear H1
                have H' := Aside0.mk H
                clear H
                go_wp2_with (first | (go_at_call 39; (with_reducible refine (cachepotref1_follows.calls a0 (wrap64 (a1 + 1)) 128 191 false _ A10.out).mono ?_); rintro e w' ⟨rfl, ⟨nd, rfl⟩⟩; (try first | exact ⟨rfl, _, World.drewN_drewN _ _ _⟩ | exact ⟨rfl, _, Eq.trans (World.drewN_drewN _ _ _) (congrArg (World.drewN _) (Nat.add_assoc _ _ _))⟩)))
                repeat (go_quiet (first | (go_at_call 39; (with_reducible refine (cachepotref1_follows.calls a0 (wrap64 (a1 + 1)) 128 191 false _ A10.out).mono ?_); rintro e w' ⟨rfl, ⟨nd, rfl⟩⟩; (try first | exact ⟨rfl, _, World.drewN_drewN _ _ _⟩ | exact ⟨rfl, _, Eq.trans (World.drewN_drewN _ _ _) (congrArg (World.drewN _) (Nat.add_assoc _ _ _))⟩))); try go_wp2_with (first | (go_at_call 39; (with_reducible refine (cachepotref1_follows.calls a0 (wrap64 (a1 + 1)) 128 191 false _ A10.out).mono ?_); rintro e w' ⟨rfl, ⟨nd, rfl⟩⟩; (try first | exact ⟨rfl, _, World.drewN_drewN _ _ _⟩ | exact ⟨rfl, _, Eq.trans (World.drewN_drewN _ _ _) (congrArg (World.drewN _) (Nat.add_assoc _ _ _))⟩))))
                go_meet
                case rel => exact ⟨_, H', ⟨by first | omega | exact Nat.le_refl _⟩, by repeat (first | exact Drawn0.refl _ | apply Drawn0.step)⟩
            · rw [if_neg c9] at H
              have c9b0 : decide ((bt a0 a1) ≤ 223) = false := decide_eq_false c9
              clear c9
              have H' := Aside0.mk H
              clear H
              go_wp2
              repeat (go_quiet (fail); try go_wp2)
              go_meet
              case rel => exact ⟨_, H', ⟨by first | omega | exact Nat.le_refl _⟩, by repeat (first | exact Drawn0.refl _ | apply Drawn0.step)⟩
          · rw [if_neg c8] at H
            have c8b0 : decide (194 ≤ (bt a0 a1)) = false := decide_eq_false c8
            clear c8
            have H' := Aside0.mk H
            clear H
            go_wp2
            repeat (go_quiet (fail); try go_wp2)
            go_meet
            case rel => exact ⟨_, H', ⟨by first | omega | exact Nat.le_refl _⟩, by repeat (first | exact Drawn0.refl _ | apply Drawn0.step)⟩
      case rest =>
        clear HC6
        try clear c1
        try clear p1
        try clear q1
        try clear hx1
        try clear c2
        try clear p2
        try clear c3
        try clear c3b0
        try clear c4
        try clear c4b0
        try clear p5
        try clear q5
        try clear hx5
        try clear p6
        try clear c7
        try clear c7b0
        try clear c8
        try clear c8b0
        try clear c9
        try clear c9b0
        try clear c11
        try clear c13
        try clear c13b0
        try clear c14
        try clear c14b0
        try clear p15
        try clear q15
        try clear hx15
        try clear p15
        try clear p5
        try clear q15
        try clear q5
        obtain ⟨kq, HA, HJ5, ⟨mc5, rfl⟩⟩ := hcut
        cases kq with
        | zero => exact absurd HA.out (by simp [cachepotref1_Rune.j0])
        | succ kj5 =>
          have H := HA.out
          clear HA
          simp only [cachepotref1_Rune.j0] at H
          have HC16 := Aside0.mk H
          clear H
          go_upto_block 1 with (fail)
          repeat (go_quiet (fail); go_upto_block 1 with (fail))
          go_cut [7, 8] (fun v7 v8 wc => ∃ (kq : Nat) (x7_15 : Int) (x8_15 : Int), v7 = .int .u8 x7_15 ∧ v8 = .int .u8 x8_15 ∧ Aside0 (cachepotref1_Rune.j1 kq a0 a1 (bt a0 a1) x7_15 x8_15 = some (r1, r2)) ∧ Aside0 (kq ≤ kj5) ∧ Drawn0 w wc)
          case first =>
            have H := HC16.out
            clear HC16
            by_cases c17 : (bt a0 a1) = 224
            · rw [if_pos c17] at H
              have c17b0 : ((bt a0 a1) == 224) = true := beq_iff_eq.mpr c17
              have c17b1 : ((bt a0 a1) != 224) = false := bne_eq_false_iff_eq.mpr c17
              clear c17
              (first | rw [c17b0] | (simp only [i64_w, i32_w]; rw [c17b0]) | skip)
              have H' := Aside0.mk H
              clear H
              go_wp2
              repeat (go_quiet (fail); try go_wp2)
              go_meet
              case rel => exact ⟨_, (160), (191), (by first | rfl | (simp; done) | (simp [*]; done)), (by first | rfl | (simp; done) | (simp [*]; done)), H', ⟨by have := HJ5.out; first | omega | exact Nat.le_refl _⟩, by repeat (first | exact Drawn0.refl _ | apply Drawn0.step)⟩
            · rw [if_neg c17] at H
              have c17b0 : ((bt a0 a1) == 224) = false := beq_eq_false_iff_ne.mpr c17
              have c17b1 : ((bt a0 a1) != 224) = true := bne_iff_ne.mpr c17
              (first | rw [c17b0] | (simp only [i64_w, i32_w]; rw [c17b0]) | skip)
              by_cases c18 : (bt a0 a1) = 237
              · rw [if_pos c18] at H
                have c18b0 : ((bt a0 a1) == 237) = true := beq_iff_eq.mpr c18
                have c18b1 : ((bt a0 a1) != 237) = false := bne_eq_false_iff_eq.mpr c18
                clear c18
                have H' := Aside0.mk H
                clear H
                go_wp2
                repeat (go_quiet (fail); try go_wp2)
                go_meet
                case rel => exact ⟨_, (128), (159), (by first | rfl | (simp; done) | (simp [*]; done)), (by first | rfl | (simp; done) | (simp [*]; done)), H', ⟨by have := HJ5.out; first | omega | exact Nat.le_refl _⟩, by repeat (first | exact Drawn0.refl _ | apply Drawn0.step)⟩
              · rw [if_neg c18] at H
                have c18b0 : ((bt a0 a1) == 237) = false := beq_eq_false_iff_ne.mpr c18
                have c18b1 : ((bt a0 a1) != 237) = true := bne_iff_ne.mpr c18
                by_cases c19 : (bt a0 a1) = 240
                · rw [if_pos c19] at H
                  have c19b0 : ((bt a0 a1) == 240) = true := beq_iff_eq.mpr c19
                  have c19b1 : ((bt a0 a1) != 240) = false := bne_eq_false_iff_eq.mpr c19
                  clear c19
                  have H' := Aside0.mk H
                  clear H
                  go_wp2
                  repeat (go_quiet (fail); try go_wp2)
                  go_meet
                  case rel => exact ⟨_, (144), (191), (by first | rfl | (simp; done) | (simp [*]; done)), (by first | rfl | (simp; done) | (simp [*]; done)), H', ⟨by have := HJ5.out; first | omega | exact Nat.le_refl _⟩, by repeat (first | exact Drawn0.refl _ | apply Drawn0.step)⟩
                · rw [if_neg c19] at H
                  have c19b0 : ((bt a0 a1) == 240) = false := beq_eq_false_iff_ne.mpr c19
                  have c19b1 : ((bt a0 a1) != 240) = true := bne_iff_ne.mpr c19
                  by_cases c20 : (bt a0 a1) = 244
                  · rw [if_pos c20] at H
                    have c20b0 : ((bt a0 a1) == 244) = true := beq_iff_eq.mpr c20
                    have c20b1 : ((bt a0 a1) != 244) = false := bne_eq_false_iff_eq.mpr c20
                    clear c20
                    have H' := Aside0.mk H
                    clear H
                    go_wp2
                    repeat (go_quiet (fail); try go_wp2)
                    go_meet
                    case rel => exact ⟨_, (128), (143), (by first | rfl | (simp; done) | (simp [*]; done)), (by first | rfl | (simp; done) | (simp [*]; done)), H', ⟨by have := HJ5.out; first | omega | exact Nat.le_refl _⟩, by repeat (first | exact Drawn0.refl _ | apply Drawn0.step)⟩
                  · rw [if_neg c20] at H
                    have c20b0 : ((bt a0 a1) == 244) = false := beq_eq_false_iff_ne.mpr c20
                    have c20b1 : ((bt a0 a1) != 244) = true := bne_iff_ne.mpr c20
                    have H' := Aside0.mk H
                    clear H
                    go_wp2
                    repeat (go_quiet (fail); try go_wp2)
                    go_meet
                    case rel => exact ⟨_, (128), (191), (by first | rfl | (simp; done) | (simp [*]; done)), (by first | rfl | (simp; done) | (simp [*]; done)), H', ⟨by have := HJ5.out; first | omega | exact Nat.le_refl _⟩, by repeat (first | exact Drawn0.refl _ | apply Drawn0.step)⟩
          case rest =>
            clear HC16
            try clear c1
            try clear p1
            try clear q1
            try clear hx1
            try clear c2
            try clear p2
            try clear c3
            try clear c3b0
            try clear c4
            try clear c4b0
            try clear c5
            try clear p5
            try clear q5
            try clear hx5
            try clear p6
            try clear c7
            try clear c7b0
            try clear c8
            try clear c8b0
            try clear c9
            try clear c9b0
            try clear c11
            try clear c13
            try clear c13b0
            try clear c14
            try clear c14b0
            try clear p15
            try clear q15
            try clear hx15
            try clear c17
            try clear c17b0
            try clear c17b1
            try clear c18
            try clear c18b0
            try clear c18b1
            try clear c19
            try clear c19b0
            try clear c19b1
            try clear c20
            try clear c20b0
            try clear c20b1
            try clear p1
            try clear p15
            try clear p2
            try clear p5
            try clear p6
            try clear q1
            try clear q15
            try clear q5
            obtain ⟨kq, x7_15, x8_15, rfl, rfl, HA, HJ15, ⟨mc15, rfl⟩⟩ := hcut
            cases kq with
            | zero => exact absurd HA.out (by simp [cachepotref1_Rune.j1])
            | succ kj15 =>
              have H := HA.out
              clear HA
              simp only [cachepotref1_Rune.j1] at H
              have HC21 := Aside0.mk H
              clear H
              go_upto_region 16 with (fail)
              repeat (go_quiet (fail); go_upto_region 16 with (fail))
              go_cut [69] (fun v69 wc => ∃ (kq : Nat) (x69_20 : Bool), v69 = .bool x69_20 ∧ Aside0 (cachepotref1_Rune.j2 kq a0 a1 (bt a0 a1) x7_15 x8_15 x69_20 = some (r1, r2)) ∧ Aside0 (kq ≤ kj15) ∧ Drawn0 w wc)
              case first =>
                have H := HC21.out
                clear HC21
                by_cases c22 : (bt a0 a1) ≥ 224
                · rw [if_pos c22] at H
                  have c22b0 : decide (224 ≤ (bt a0 a1)) = true := decide_eq_true c22
                  clear c22
                  (first | rw [c22b0] | (simp only [i64_w, i32_w]; rw [c22b0]) | skip)
                  by_cases c23 : (bt a0 a1) ≤ 239
                  · rw [if_pos c23] at H
                    have c23b0 : decide ((bt a0 a1) ≤ 239) = true := decide_eq_true c23
                    clear c23
                    replace H := Option.bind_eq_some_iff.mp H
                    obtain ⟨t108, A240, H⟩ := H
                    replace H : (if t108 = true then ((cachepotref1_follows.f a0 (wrap64 (a1 + 2)) 128 191).bind fun t109 => (cachepotref1_Rune.j2 kj15 a0 a1 (bt a0 a1) x7_15 x8_15 t109)) else (cachepotref1_Rune.j2 kj15 a0 a1 (bt a0 a1) x7_15 x8_15 false)) = some (r1, r2) := H
                    have A24 := Aside0.mk A240
                    clear A240
                    by_cases c25 : t108 = true
                    · subst c25
                      have H1 : ((cachepotref1_follows.f a0 (wrap64 (a1 + 2)) 128 191).bind fun t109 => (cachepotref1_Rune.j2 kj15 a0 a1 (bt a0 a1) x7_15 x8_15 t109)) = some (r1, r2) := by rw [if_pos rfl] at H; exact H
                      clear H
                      have H := H1
                      clear H1
                      replace H := Option.bind_eq_some_iff.mp H
                      obtain ⟨t109, A260, H⟩ := H
                      replace H : (cachepotref1_Rune.j2 kj15 a0 a1 (bt a0 a1) x7_15 x8_15 t109) = some (r1, r2) := H
                      have A26 := Aside0.mk A260
                      clear A260
                      have H' := Aside0.mk H
                      clear H
                      go_wp2_with (first | (go_at_call 39; (with_reducible refine (cachepotref1_follows.calls a0 (wrap64 (a1 + 1)) x7_15 x8_15 true _ A24.out).mono ?_); rintro e w' ⟨rfl, ⟨nd, rfl⟩⟩; (try first | exact ⟨rfl, _, World.drewN_drewN _ _ _⟩ | exact ⟨rfl, _, Eq.trans (World.drewN_drewN _ _ _) (congrArg (World.drewN _) (Nat.add_assoc _ _ _))⟩)) | (go_at_call 39; (with_reducible refine (cachepotref1_follows.calls a0 (wrap64 (a1 + 2)) 128 191 t109 _ A26.out).mono ?_); rintro e w' ⟨rfl, ⟨nd, rfl⟩⟩; (try first | exact ⟨rfl, _, World.drewN_drewN _ _ _⟩ | exact ⟨rfl, _, Eq.trans (World.drewN_drewN _ _ _) (congrArg (World.drewN _) (Nat.add_assoc _ _ _))⟩)))
                      repeat (go_quiet (first | (go_at_call 39; (with_reducible refine (cachepotref1_follows.calls a0 (wrap64 (a1 + 1)) x7_15 x8_15 true _ A24.out).mono ?_); rintro e w' ⟨rfl, ⟨nd, rfl⟩⟩; (try first | exact ⟨rfl, _, World.drewN_drewN _ _ _⟩ | exact ⟨rfl, _, Eq.trans (World.drewN_drewN _ _ _) (congrArg (World.drewN _) (Nat.add_assoc _ _ _))⟩)) | (go_at_call 39; (with_reducible refine (cachepotref1_follows.calls a0 (wrap64 (a1 + 2)) 128 191 t109 _ A26.out).mono ?_); rintro e w' ⟨rfl, ⟨nd, rfl⟩⟩; (try first | exact ⟨rfl, _, World.drewN_drewN _ _ _⟩ | exact ⟨rfl, _, Eq.trans (World.drewN_drewN _ _ _) (congrArg (World.drewN _) (Nat.add_assoc _ _ _))⟩))); try go_wp2_with (first | (go_at_call 39; (with_reducible refine (cachepotref1_follows.calls a0 (wrap64 (a1 + 1)) x7_15 x8_15 true _ A24.out).mono ?_); rintro e w' ⟨rfl, ⟨nd, rfl⟩⟩; (try first | exact ⟨rfl, _, World.drewN_drewN _ _ _⟩ | exact ⟨rfl, _, Eq.trans (World.drewN_drewN _ _ _) (congrArg (World.drewN _) (Nat.add_assoc _ _ _))⟩)) | (go_at_call 39; (with_reducible refine (cachepotref1_follows.calls a0 (wrap64 (a1 + 2)) 128 191 t109 _ A26.out).mono ?_); rintro e w' ⟨rfl, ⟨nd, rfl⟩⟩; (try first | exact ⟨rfl, _, World.drewN_drewN _ _ _⟩ | exact ⟨rfl, _, Eq.trans (World.drewN_drewN _ _ _) (congrArg (World.drewN _) (Nat.add_assoc _ _ _))⟩))))
                      go_meet
                      case rel => exact ⟨_, (t109), (by first | rfl | (simp; done) | (simp [*]; done)), H', ⟨by have := HJ5.out; have := HJ15.out; first | omega | exact Nat.le_refl _⟩, by repeat (first | exact Drawn0.refl _ | apply Drawn0.step)⟩
                    · replace c25 := Bool.eq_false_iff.mpr c25
                      subst c25
                      have H1 : (cachepotref1_Rune.j2 kj15 a0 a1 (bt a0 a1) x7_15 x8_15 false) = some (r1, r2) := by rw [if_neg (show ¬ (false = true) by decide)] at H; exact H
                      clear H
                      have H := H1
                      clear H1
                      have H' := Aside0.mk H
                      clear H
                      go_wp2_with (first | (go_at_call 39; (with_reducible refine (cachepotref1_follows.calls a0 (wrap64 (a1 + 1)) x7_15 x8_15 false _ A24.out).mono ?_); rintro e w' ⟨rfl, ⟨nd, rfl⟩⟩; (try first | exact ⟨rfl, _, World.drewN_drewN _ _ _⟩ | exact ⟨rfl, _, Eq.trans (World.drewN_drewN _ _ _) (congrArg (World.drewN _) (Nat.add_assoc _ _ _))⟩)))
                      repeat (go_quiet (first | (go_at_call 39; (with_reducible refine (cachepotref1_follows.calls a0 (wrap64 (a1 + 1)) x7_15 x8_15 false _ A24.out).mono ?_); rintro e w' ⟨rfl, ⟨nd, rfl⟩⟩; (try first | exact ⟨rfl, _, World.drewN_drewN _ _ _⟩ | exact ⟨rfl, _, Eq.trans (World.drewN_drewN _ _ _) (congrArg (World.drewN _) (Nat.add_assoc _ _ _))⟩))); try go_wp2_with (first | (go_at_call 39; (with_reducible refine (cachepotref1_follows.calls a0 (wrap64 (a1 + 1)) x7_15 x8_15 false _ A24.out).mono ?_); rintro e w' ⟨rfl, ⟨nd, rfl⟩⟩; (try first | exact ⟨rfl, _, World.drewN_drewN _ _ _⟩ | exact ⟨rfl, _, Eq.trans (World.drewN_drewN _ _ _) (congrArg (World.drewN _) (Nat.add_assoc _ _ _))⟩))))
                      go_meet
                      case rel => exact ⟨_, (false), (by first | rfl | (simp; done) | (simp [*]; done)), H', ⟨by have := HJ5.out; have := HJ15.out; first | omega | exact Nat.le_refl _⟩, by repeat (first | exact Drawn0.refl _ | apply Drawn0.step)⟩
                  · rw [if_neg c23] at H
                    have c23b0 : decide ((bt a0 a1) ≤ 239) = false := decide_eq_false c23
                    clear c23
                    have H' := Aside0.mk H
                    clear H
                    go_wp2
                    repeat (go_quiet (fail); try go_wp2)
                    go_meet
                    case rel => exact ⟨_, (false), (by first | rfl | (simp; done) | (simp [*]; done)), H', ⟨by have := HJ5.out; have := HJ15.out; first | omega | exact Nat.le_refl _⟩, by repeat (first | exact Drawn0.refl _ | apply Drawn0.step)⟩
                · rw [if_neg c22] at H
                  have c22b0 : decide (224 ≤ (bt a0 a1)) = false := decide_eq_false c22
                  clear c22
                  (first | rw [c22b0] | (simp only [i64_w, i32_w]; rw [c22b0]) | skip)
                  have H' := Aside0.mk H
                  clear H
                  go_wp2
                  repeat (go_quiet (fail); try go_wp2)
                  go_meet
                  case rel => exact ⟨_, (false), (by first | rfl | (simp; done) | (simp [*]; done)), H', ⟨by have := HJ5.out; have := HJ15.out; first | omega | exact Nat.le_refl _⟩, by repeat (first | exact Drawn0.refl _ | apply Drawn0.step)⟩
              case rest =>
                clear HC21
                try clear c1
                try clear p1
                try clear q1
                try clear hx1
                try clear c2
                try clear p2
                try clear c3
                try clear c3b0
                try clear c4
                try clear c4b0
                try clear c5
                try clear p5
                try clear q5
                try clear hx5
                try clear p6
                try clear c7
                try clear c7b0
                try clear c8
                try clear c8b0
                try clear c9
                try clear c9b0
                try clear c11
                try clear c13
                try clear c13b0
                try clear c14
                try clear c14b0
                try clear c15
                try clear p15
                try clear q15
                try clear hx15
                try clear c17
                try clear c17b0
                try clear c17b1
                try clear c18
                try clear c18b0
                try clear c18b1
                try clear c19
                try clear c19b0
                try clear c19b1
                try clear c20
                try clear c20b0
                try clear c20b1
                try clear c22
                try clear c22b0
                try clear c23
                try clear c23b0
                try clear c25
                try clear c26
                try clear p1
                try clear p15
                try clear p2
                try clear p5
                try clear p6
                try clear q1
                try clear q15
                try clear q5
                obtain ⟨kq, x69_20, rfl, HA, HJ20, ⟨mc20, rfl⟩⟩ := hcut
                cases kq with
                | zero => exact absurd HA.out (by simp [cachepotref1_Rune.j2])
                | succ kj20 =>
                  have H := HA.out
                  clear HA
                  simp only [cachepotref1_Rune.j2] at H
                  by_cases c27 : x69_20 = true
                  · subst c27
                    have H1 : (if 0 ≤ (wrap64 (a1 + 1)) then (if (wrap64 (a1 + 1)) < (a0.size : Int) then (if 0 ≤ (wrap64 (a1 + 2)) then (if (wrap64 (a1 + 2)) < (a0.size : Int) then (some (wrap64 ((wrap64 ((wrap64 ((wrap64 (Go.bits .and .u8 (bt a0 a1) 15)) * 4096)) + (wrap64 ((wrap64 (Go.bits .and .u8 (bt a0 (wrap64 (a1 + 1))) 63)) * 64)))) + (wrap64 (Go.bits .and .u8 (bt a0 (wrap64 (a1 + 2))) 63))), 3)) else (none)) else (none)) else (none)) else (none)) = some (r1, r2) := by rw [if_pos rfl] at H; exact H
                    clear H
                    have H := H1
                    clear H1
                    obtain ⟨ji28, hji28⟩ : ∃ j_ : Int, (wrap64 (a1 + 1)) = j_ := ⟨_, rfl⟩
                    replace H : (if 0 ≤ (ji28) then (if (ji28) < (a0.size : Int) then (if 0 ≤ (wrap64 (a1 + 2)) then (if (wrap64 (a1 + 2)) < (a0.size : Int) then (some (wrap64 ((wrap64 ((wrap64 ((wrap64 (Go.bits .and .u8 (bt a0 a1) 15)) * 4096)) + (wrap64 ((wrap64 (Go.bits .and .u8 (bt a0 (ji28)) 63)) * 64)))) + (wrap64 (Go.bits .and .u8 (bt a0 (wrap64 (a1 + 2))) 63))), 3)) else (none)) else (none)) else (none)) else (none)) = some (r1, r2) := by first | (rw [hji28] at H; exact H) | (simp only [hji28] at H ⊢; exact H)
                    have hji28w : (IntKind.i64.wrap (a1 + 1)) = ji28 := (i64_w _).trans hji28
                    by_cases c29 : 0 ≤ (ji28)
                    · rw [if_pos c29] at H
                      have c29b0 : decide (0 ≤ (ji28)) = true := decide_eq_true c29
                      clear c29
                      by_cases c30 : (ji28) < (a0.size : Int)
                      · rw [if_pos c30] at H
                        have c30b0 : decide ((ji28) < (a0.size : Int)) = true := decide_eq_true c30
                        clear c30
                        obtain ⟨ji32, hji32⟩ : ∃ j_ : Int, (wrap64 (a1 + 2)) = j_ := ⟨_, rfl⟩
                        replace H : (if 0 ≤ (ji32) then (if (ji32) < (a0.size : Int) then (some (wrap64 ((wrap64 ((wrap64 ((wrap64 (Go.bits .and .u8 (bt a0 a1) 15)) * 4096)) + (wrap64 ((wrap64 (Go.bits .and .u8 (bt a0 (ji28)) 63)) * 64)))) + (wrap64 (Go.bits .and .u8 (bt a0 (ji32)) 63))), 3)) else (none)) else (none)) = some (r1, r2) := by first | (rw [hji32] at H; exact H) | (simp only [hji32] at H ⊢; exact H)
                        have hji32w : (IntKind.i64.wrap (a1 + 2)) = ji32 := (i64_w _).trans hji32
                        by_cases c33 : 0 ≤ (ji32)
                        · rw [if_pos c33] at H
                          have c33b0 : decide (0 ≤ (ji32)) = true := decide_eq_true c33
                          clear c33
                          by_cases c34 : (ji32) < (a0.size : Int)
                          · rw [if_pos c34] at H
                            have c34b0 : decide ((ji32) < (a0.size : Int)) = true := decide_eq_true c34
                            clear c34
                            simp only [Option.some.injEq, Prod.mk.injEq] at H
                            obtain ⟨rfl, rfl⟩ := H
                            have p31 : 0 ≤ ((ji28) : Int) := of_decide_eq_true (by first | (with_reducible assumption) | assumption)
                            have q31 : (ji28) < (a0.size : Int) := of_decide_eq_true (by first | (with_reducible assumption) | assumption)
                            have hx31 := bt_at a0 (ji28)
                            replace p31 := eq_true p31
                            replace q31 := eq_true q31
                            have p35 : 0 ≤ ((ji32) : Int) := of_decide_eq_true (by first | (with_reducible assumption) | assumption)
                            have q35 : (ji32) < (a0.size : Int) := of_decide_eq_true (by first | (with_reducible assumption) | assumption)
                            have hx35 := bt_at a0 (ji32)
                            replace p35 := eq_true p35
                            replace q35 := eq_true q35
                            go_wp2
                            repeat (go_quiet (fail); try go_wp2)
                            go_ret2
                            exact ⟨by first | rfl | (simp; done) | (simp only [← hji28, ← hji32] <;> (first | rfl | simp)) | (simp [*]; done), by repeat (first | exact Drawn0.refl _ | apply Drawn0.step)⟩
                          · rw [if_neg c34] at H
                            exact absurd H (by simp)
                        · rw [if_neg c33] at H
                          exact absurd H (by simp)
                      · rw [if_neg c30] at H
                        exact absurd H (by simp)
                    · rw [if_neg c29] at H
                      exact absurd H (by simp)
                  · replace c27 := Bool.eq_false_iff.mpr c27
                    subst c27
                    have H1 : (if (bt a0 a1) ≥ 240 then (if (bt a0 a1) ≤ 244 then ((cachepotref1_follows.f a0 (wrap64 (a1 + 1)) x7_15 x8_15).bind fun t110 => (if t110 = true then ((cachepotref1_follows.f a0 (wrap64 (a1 + 2)) 128 191).bind fun t111 => (if t111 = true then ((cachepotref1_follows.f a0 (wrap64 (a1 + 3)) 128 191).bind fun t112 => (if t112 = true then (if 0 ≤ (wrap64 (a1 + 1)) then (if (wrap64 (a1 + 1)) < (a0.size : Int) then (if 0 ≤ (wrap64 (a1 + 2)) then (if (wrap64 (a1 + 2)) < (a0.size : Int) then (if 0 ≤ (wrap64 (a1 + 3)) then (if (wrap64 (a1 + 3)) < (a0.size : Int) then (some (wrap64 ((wrap64 ((wrap64 ((wrap64 ((wrap64 (Go.bits .and .u8 (bt a0 a1) 7)) * 262144)) + (wrap64 ((wrap64 (Go.bits .and .u8 (bt a0 (wrap64 (a1 + 1))) 63)) * 4096)))) + (wrap64 ((wrap64 (Go.bits .and .u8 (bt a0 (wrap64 (a1 + 2))) 63)) * 64)))) + (wrap64 (Go.bits .and .u8 (bt a0 (wrap64 (a1 + 3))) 63))), 4)) else (none)) else (none)) else (none)) else (none)) else (none)) else (none)) else (some (65533, 1)))) else (some (65533, 1)))) else (some (65533, 1)))) else (some (65533, 1))) else (some (65533, 1))) = some (r1, r2) := by rw [if_neg (show ¬ (false = true) by decide)] at H; exact H
                    clear H
                    have H := H1
                    clear H1
                    by_cases c36 : (bt a0 a1) ≥ 240
                    · rw [if_pos c36] at H
                      have c36b0 : decide (240 ≤ (bt a0 a1)) = true := decide_eq_true c36
                      clear c36
                      by_cases c37 : (bt a0 a1) ≤ 244
                      · rw [if_pos c37] at H
                        have c37b0 : decide ((bt a0 a1) ≤ 244) = true := decide_eq_true c37
                        clear c37
                        replace H := Option.bind_eq_some_iff.mp H
                        obtain ⟨t110, A380, H⟩ := H
                        replace H : (if t110 = true then ((cachepotref1_follows.f a0 (wrap64 (a1 + 2)) 128 191).bind fun t111 => (if t111 = true then ((cachepotref1_follows.f a0 (wrap64 (a1 + 3)) 128 191).bind fun t112 => (if t112 = true then (if 0 ≤ (wrap64 (a1 + 1)) then (if (wrap64 (a1 + 1)) < (a0.size : Int) then (if 0 ≤ (wrap64 (a1 + 2)) then (if (wrap64 (a1 + 2)) < (a0.size : Int) then (if 0 ≤ (wrap64 (a1 + 3)) then (if (wrap64 (a1 + 3)) < (a0.size : Int) then (some (wrap64 ((wrap64 ((wrap64 ((wrap64 ((wrap64 (Go.bits .and .u8 (bt a0 a1) 7)) * 262144)) + (wrap64 ((wrap64 (Go.bits .and .u8 (bt a0 (wrap64 (a1 + 1))) 63)) * 4096)))) + (wrap64 ((wrap64 (Go.bits .and .u8 (bt a0 (wrap64 (a1 + 2))) 63)) * 64)))) + (wrap64 (Go.bits .and .u8 (bt a0 (wrap64 (a1 + 3))) 63))), 4)) else (none)) else (none)) else (none)) else (none)) else (none)) else (none)) else (some (65533, 1)))) else (some (65533, 1)))) else (some (65533, 1))) = some (r1, r2) := H
                        have A38 := Aside0.mk A380
                        clear A380
                        by_cases c39 : t110 = true
                        · subst c39
                          have H1 : ((cachepotref1_follows.f a0 (wrap64 (a1 + 2)) 128 191).bind fun t111 => (if t111 = true then ((cachepotref1_follows.f a0 (wrap64 (a1 + 3)) 128 191).bind fun t112 => (if t112 = true then (if 0 ≤ (wrap64 (a1 + 1)) then (if (wrap64 (a1 + 1)) < (a0.size : Int) then (if 0 ≤ (wrap64 (a1 + 2)) then (if (wrap64 (a1 + 2)) < (a0.size : Int) then (if 0 ≤ (wrap64 (a1 + 3)) then (if (wrap64 (a1 + 3)) < (a0.size : Int) then (some (wrap64 ((wrap64 ((wrap64 ((wrap64 ((wrap64 (Go.bits .and .u8 (bt a0 a1) 7)) * 262144)) + (wrap64 ((wrap64 (Go.bits .and .u8 (bt a0 (wrap64 (a1 + 1))) 63)) * 4096)))) + (wrap64 ((wrap64 (Go.bits .and .u8 (bt a0 (wrap64 (a1 + 2))) 63)) * 64)))) + (wrap64 (Go.bits .and .u8 (bt a0 (wrap64 (a1 + 3))) 63))), 4)) else (none)) else (none)) else (none)) else (none)) else (none)) else (none)) else (some (65533, 1)))) else (some (65533, 1)))) = some (r1, r2) := by rw [if_pos rfl] at H; exact H
                          clear H
                          have H := H1
                          clear H1
                          replace H := Option.bind_eq_some_iff.mp H
                          obtain ⟨t111, A400, H⟩ := H
                          replace H : (if t111 = true then ((cachepotref1_follows.f a0 (wrap64 (a1 + 3)) 128 191).bind fun t112 => (if t112 = true then (if 0 ≤ (wrap64 (a1 + 1)) then (if (wrap64 (a1 + 1)) < (a0.size : Int) then (if 0 ≤ (wrap64 (a1 + 2)) then (if (wrap64 (a1 + 2)) < (a0.size : Int) then (if 0 ≤ (wrap64 (a1 + 3)) then (if (wrap64 (a1 + 3)) < (a0.size : Int) then (some (wrap64 ((wrap64 ((wrap64 ((wrap64 ((wrap64 (Go.bits .and .u8 (bt a0 a1) 7)) * 262144)) + (wrap64 ((wrap64 (Go.bits .and .u8 (bt a0 (wrap64 (a1 + 1))) 63)) * 4096)))) + (wrap64 ((wrap64 (Go.bits .and .u8 (bt a0 (wrap64 (a1 + 2))) 63)) * 64)))) + (wrap64 (Go.bits .and .u8 (bt a0 (wrap64 (a1 + 3))) 63))), 4)) else (none)) else (none)) else (none)) else (none)) else (none)) else (none)) else (some (65533, 1)))) else (some (65533, 1))) = some (r1, r2) := H
                          have A40 := Aside0.mk A400
                          clear A400
                          by_cases c41 : t111 = true
                          · subst c41
                            have H1 : ((cachepotref1_follows.f a0 (wrap64 (a1 + 3)) 128 191).bind fun t112 => (if t112 = true then (if 0 ≤ (wrap64 (a1 + 1)) then (if (wrap64 (a1 + 1)) < (a0.size : Int) then (if 0 ≤ (wrap64 (a1 + 2)) then (if (wrap64 (a1 + 2)) < (a0.size : Int) then (if 0 ≤ (wrap64 (a1 + 3)) then (if (wrap64 (a1 + 3)) < (a0.size : Int) then (some (wrap64 ((wrap64 ((wrap64 ((wrap64 ((wrap64 (Go.bits .and .u8 (bt a0 a1) 7)) * 262144)) + (wrap64 ((wrap64 (Go.bits .and .u8 (bt a0 (wrap64 (a1 + 1))) 63)) * 4096)))) + (wrap64 ((wrap64 (Go.bits .and .u8 (bt a0 (wrap64 (a1 + 2))) 63)) * 64)))) + (wrap64 (Go.bits .and .u8 (bt a0 (wrap64 (a1 + 3))) 63))), 4)) else (none)) else (none)) else (none)) else (none)) else (none)) else (none)) else (some (65533, 1)))) = some (r1, r2) := by rw [if_pos rfl] at H; exact H
                            clear H
                            have H := H1
                            clear H1
                            replace H := Option.bind_eq_some_iff.mp H
                            obtain ⟨t112, A420, H⟩ := H
                            replace H : (if t112 = true then (if 0 ≤ (wrap64 (a1 + 1)) then (if (wrap64 (a1 + 1)) < (a0.size : Int) then (if 0 ≤ (wrap64 (a1 + 2)) then (if (wrap64 (a1 + 2)) < (a0.size : Int) then (if 0 ≤ (wrap64 (a1 + 3)) then (if (wrap64 (a1 + 3)) < (a0.size : Int) then (some (wrap64 ((wrap64 ((wrap64 ((wrap64 ((wrap64 (Go.bits .and .u8 (bt a0 a1) 7)) * 262144)) + (wrap64 ((wrap64 (Go.bits .and .u8 (bt a0 (wrap64 (a1 + 1))) 63)) * 4096)))) + (wrap64 ((wrap64 (Go.bits .and .u8 (bt a0 (wrap64 (a1 + 2))) 63)) * 64)))) + (wrap64 (Go.bits .and .u8 (bt a0 (wrap64 (a1 + 3))) 63))), 4)) else (none)) else (none)) else (none)) else (none)) else (none)) else (none)) else (some (65533, 1))) = some (r1, r2) := H
                            have A42 := Aside0.mk A420
                            clear A420
                            by_cases c43 : t112 = true
                            · subst c43
                              have H1 : (if 0 ≤ (wrap64 (a1 + 1)) then (if (wrap64 (a1 + 1)) < (a0.size : Int) then (if 0 ≤ (wrap64 (a1 + 2)) then (if (wrap64 (a1 + 2)) < (a0.size : Int) then (if 0 ≤ (wrap64 (a1 + 3)) then (if (wrap64 (a1 + 3)) < (a0.size : Int) then (some (wrap64 ((wrap64 ((wrap64 ((wrap64 ((wrap64 (Go.bits .and .u8 (bt a0 a1) 7)) * 262144)) + (wrap64 ((wrap64 (Go.bits .and .u8 (bt a0 (wrap64 (a1 + 1))) 63)) * 4096)))) + (wrap64 ((wrap64 (Go.bits .and .u8 (bt a0 (wrap64 (a1 + 2))) 63)) * 64)))) + (wrap64 (Go.bits .and .u8 (bt a0 (wrap64 (a1 + 3))) 63))), 4)) else (none)) else (none)) else (none)) else (none)) else (none)) else (none)) = some (r1, r2) := by rw [if_pos rfl] at H; exact H
                              clear H
                              have H := H1
                              clear H1
                              obtain ⟨ji44, hji44⟩ : ∃ j_ : Int, (wrap64 (a1 + 1)) = j_ := ⟨_, rfl⟩
                              replace H : (if 0 ≤ (ji44) then (if (ji44) < (a0.size : Int) then (if 0 ≤ (wrap64 (a1 + 2)) then (if (wrap64 (a1 + 2)) < (a0.size : Int) then (if 0 ≤ (wrap64 (a1 + 3)) then (if (wrap64 (a1 + 3)) < (a0.size : Int) then (some (wrap64 ((wrap64 ((wrap64 ((wrap64 ((wrap64 (Go.bits .and .u8 (bt a0 a1) 7)) * 262144)) + (wrap64 ((wrap64 (Go.bits .and .u8 (bt a0 (ji44)) 63)) * 4096)))) + (wrap64 ((wrap64 (Go.bits .and .u8 (bt a0 (wrap64 (a1 + 2))) 63)) * 64)))) + (wrap64 (Go.bits .and .u8 (bt a0 (wrap64 (a1 + 3))) 63))), 4)) else (none)) else (none)) else (none)) else (none)) else (none)) else (none)) = some (r1, r2) := by first | (rw [hji44] at H; exact H) | (simp only [hji44] at H ⊢; exact H)
                              (try rw [hji44] at A38)
                              (try rw [hji44] at A40)
                              (try rw [hji44] at A42)
                              have hji44w : (IntKind.i64.wrap (a1 + 1)) = ji44 := (i64_w _).trans hji44
                              by_cases c45 : 0 ≤ (ji44)
                              · rw [if_pos c45] at H
                                have c45b0 : decide (0 ≤ (ji44)) = true := decide_eq_true c45
                                clear c45
                                by_cases c46 : (ji44) < (a0.size : Int)
                                · rw [if_pos c46] at H
                                  have c46b0 : decide ((ji44) < (a0.size : Int)) = true := decide_eq_true c46
                                  clear c46
                                  obtain ⟨ji48, hji48⟩ : ∃ j_ : Int, (wrap64 (a1 + 2)) = j_ := ⟨_, rfl⟩
                                  replace H : (if 0 ≤ (ji48) then (if (ji48) < (a0.size : Int) then (if 0 ≤ (wrap64 (a1 + 3)) then (if (wrap64 (a1 + 3)) < (a0.size : Int) then (some (wrap64 ((wrap64 ((wrap64 ((wrap64 ((wrap64 (Go.bits .and .u8 (bt a0 a1) 7)) * 262144)) + (wrap64 ((wrap64 (Go.bits .and .u8 (bt a0 (ji44)) 63)) * 4096)))) + (wrap64 ((wrap64 (Go.bits .and .u8 (bt a0 (ji48)) 63)) * 64)))) + (wrap64 (Go.bits .and .u8 (bt a0 (wrap64 (a1 + 3))) 63))), 4)) else (none)) else (none)) else (none)) else (none)) = some (r1, r2) := by first | (rw [hji48] at H; exact H) | (simp only [hji48] at H ⊢; exact H)
                                  (try rw [hji48] at A38)
                                  (try rw [hji48] at A40)
                                  (try rw [hji48] at A42)
                                  have hji48w : (IntKind.i64.wrap (a1 + 2)) = ji48 := (i64_w _).trans hji48
                                  by_cases c49 : 0 ≤ (ji48)
                                  · rw [if_pos c49] at H
                                    have c49b0 : decide (0 ≤ (ji48)) = true := decide_eq_true c49
                                    clear c49
                                    by_cases c50 : (ji48) < (a0.size : Int)
                                    · rw [if_pos c50] at H
                                      have c50b0 : decide ((ji48) < (a0.size : Int)) = true := decide_eq_true c50
                                      clear c50
                                      obtain ⟨ji52, hji52⟩ : ∃ j_ : Int, (wrap64 (a1 + 3)) = j_ := ⟨_, rfl⟩
                                      replace H : (if 0 ≤ (ji52) then (if (ji52) < (a0.size : Int) then (some (wrap64 ((wrap64 ((wrap64 ((wrap64 ((wrap64 (Go.bits .and .u8 (bt a0 a1) 7)) * 262144)) + (wrap64 ((wrap64 (Go.bits .and .u8 (bt a0 (ji44)) 63)) * 4096)))) + (wrap64 ((wrap64 (Go.bits .and .u8 (bt a0 (ji48)) 63)) * 64)))) + (wrap64 (Go.bits .and .u8 (bt a0 (ji52)) 63))), 4)) else (none)) else (none)) = some (r1, r2) := by first | (rw [hji52] at H; exact H) | (simp only [hji52] at H ⊢; exact H)
                                      (try rw [hji52] at A38)
                                      (try rw [hji52] at A40)
                                      (try rw [hji52] at A42)
                                      have hji52w : (IntKind.i64.wrap (a1 + 3)) = ji52 := (i64_w _).trans hji52
                                      by_cases c53 : 0 ≤ (ji52)
                                      · rw [if_pos c53] at H
                                        have c53b0 : decide (0 ≤ (ji52)) = true := decide_eq_true c53
                                        clear c53
                                        by_cases c54 : (ji52) < (a0.size : Int)
                                        · rw [if_pos c54] at H
                                          have c54b0 : decide ((ji52) < (a0.size : Int)) = true := decide_eq_true c54
                                          clear c54
                                          simp only [Option.some.injEq, Prod.mk.injEq] at H
                                          obtain ⟨rfl, rfl⟩ := H
                                          go_wp2_with (first | (go_at_call 39; (with_reducible refine (cachepotref1_follows.calls a0 ji44 x7_15 x8_15 true _ A38.out).mono ?_); rintro e w' ⟨rfl, ⟨nd, rfl⟩⟩; (try first | exact ⟨rfl, _, World.drewN_drewN _ _ _⟩ | exact ⟨rfl, _, Eq.trans (World.drewN_drewN _ _ _) (congrArg (World.drewN _) (Nat.add_assoc _ _ _))⟩)) | (go_at_call 39; (with_reducible refine (cachepotref1_follows.calls a0 ji48 128 191 true _ A40.out).mono ?_); rintro e w' ⟨rfl, ⟨nd, rfl⟩⟩; (try first | exact ⟨rfl, _, World.drewN_drewN _ _ _⟩ | exact ⟨rfl, _, Eq.trans (World.drewN_drewN _ _ _) (congrArg (World.drewN _) (Nat.add_assoc _ _ _))⟩)) | (go_at_call 39; (with_reducible refine (cachepotref1_follows.calls a0 ji52 128 191 true _ A42.out).mono ?_); rintro e w' ⟨rfl, ⟨nd, rfl⟩⟩; (try first | exact ⟨rfl, _, World.drewN_drewN _ _ _⟩ | exact ⟨rfl, _, Eq.trans (World.drewN_drewN _ _ _) (congrArg (World.drewN _) (Nat.add_assoc _ _ _))⟩); have p47 : 0 ≤ ((ji44) : Int) := of_decide_eq_true (by first | (with_reducible assumption) | assumption); have q47 : (ji44) < (a0.size : Int) := of_decide_eq_true (by first | (with_reducible assumption) | assumption); have hx47 := bt_at a0 (ji44); replace p47 := eq_true p47; replace q47 := eq_true q47; have p51 : 0 ≤ ((ji48) : Int) := of_decide_eq_true (by first | (with_reducible assumption) | assumption); have q51 : (ji48) < (a0.size : Int) := of_decide_eq_true (by first | (with_reducible assumption) | assumption); have hx51 := bt_at a0 (ji48); replace p51 := eq_true p51; replace q51 := eq_true q51; have p55 : 0 ≤ ((ji52) : Int) := of_decide_eq_true (by first | (with_reducible assumption) | assumption); have q55 : (ji52) < (a0.size : Int) := of_decide_eq_true (by first | (with_reducible assumption) | assumption); have hx55 := bt_at a0 (ji52); replace p55 := eq_true p55; replace q55 := eq_true q55))
                                          repeat (go_quiet (first | (go_at_call 39; (with_reducible refine (cachepotref1_follows.calls a0 ji44 x7_15 x8_15 true _ A38.out).mono ?_); rintro e w' ⟨rfl, ⟨nd, rfl⟩⟩; (try first | exact ⟨rfl, _, World.drewN_drewN _ _ _⟩ | exact ⟨rfl, _, Eq.trans (World.drewN_drewN _ _ _) (congrArg (World.drewN _) (Nat.add_assoc _ _ _))⟩)) | (go_at_call 39; (with_reducible refine (cachepotref1_follows.calls a0 ji48 128 191 true _ A40.out).mono ?_); rintro e w' ⟨rfl, ⟨nd, rfl⟩⟩; (try first | exact ⟨rfl, _, World.drewN_drewN _ _ _⟩ | exact ⟨rfl, _, Eq.trans (World.drewN_drewN _ _ _) (congrArg (World.drewN _) (Nat.add_assoc _ _ _))⟩)) | (go_at_call 39; (with_reducible refine (cachepotref1_follows.calls a0 ji52 128 191 true _ A42.out).mono ?_); rintro e w' ⟨rfl, ⟨nd, rfl⟩⟩; (try first | exact ⟨rfl, _, World.drewN_drewN _ _ _⟩ | exact ⟨rfl, _, Eq.trans (World.drewN_drewN _ _ _) (congrArg (World.drewN _) (Nat.add_assoc _ _ _))⟩); have p47 : 0 ≤ ((ji44) : Int) := of_decide_eq_true (by first | (with_reducible assumption) | assumption); have q47 : (ji44) < (a0.size : Int) := of_decide_eq_true (by first | (with_reducible assumption) | assumption); have hx47 := bt_at a0 (ji44); replace p47 := eq_true p47; replace q47 := eq_true q47; have p51 : 0 ≤ ((ji48) : Int) := of_decide_eq_true (by first | (with_reducible assumption) | assumption); have q51 : (ji48) < (a0.size : Int) := of_decide_eq_true (by first | (with_reducible assumption) | assumption); have hx51 := bt_at a0 (ji48); replace p51 := eq_true p51; replace q51 := eq_true q51; have p55 : 0 ≤ ((ji52) : Int) := of_decide_eq_true (by first | (with_reducible assumption) | assumption); have q55 : (ji52) < (a0.size : Int) := of_decide_eq_true (by first | (with_reducible assumption) | assumption); have hx55 := bt_at a0 (ji52); replace p55 := eq_true p55; replace q55 := eq_true q55)); try go_wp2_with (first | (go_at_call 39; (with_reducible refine (cachepotref1_follows.calls a0 ji44 x7_15 x8_15 true _ A38.out).mono ?_); rintro e w' ⟨rfl, ⟨nd, rfl⟩⟩; (try first | exact ⟨rfl, _, World.drewN_drewN _ _ _⟩ | exact ⟨rfl, _, Eq.trans (World.drewN_drewN _ _ _) (congrArg (World.drewN _) (Nat.add_assoc _ _ _))⟩)) | (go_at_call 39; (with_reducible refine (cachepotref1_follows.calls a0 ji48 128 191 true _ A40.out).mono ?_); rintro e w' ⟨rfl, ⟨nd, rfl⟩⟩; (try first | exact ⟨rfl, _, World.drewN_drewN _ _ _⟩ | exact ⟨rfl, _, Eq.trans (World.drewN_drewN _ _ _) (congrArg (World.drewN _) (Nat.add_assoc _ _ _))⟩)) | (go_at_call 39; (with_reducible refine (cachepotref1_follows.calls a0 ji52 128 191 true _ A42.out).mono ?_); rintro e w' ⟨rfl, ⟨nd, rfl⟩⟩; (try first | exact ⟨rfl, _, World.drewN_drewN _ _ _⟩ | exact ⟨rfl, _, Eq.trans (World.drewN_drewN _ _ _) (congrArg (World.drewN _) (Nat.add_assoc _ _ _))⟩); have p47 : 0 ≤ ((ji44) : Int) := of_decide_eq_true (by first | (with_reducible assumption) | assumption); have q47 : (ji44) < (a0.size : Int) := of_decide_eq_true (by first | (with_reducible assumption) | assumption); have hx47 := bt_at a0 (ji44); replace p47 := eq_true p47; replace q47 := eq_true q47; have p51 : 0 ≤ ((ji48) : Int) := of_decide_eq_true (by first | (with_reducible assumption) | assumption); have q51 : (ji48) < (a0.size : Int) := of_decide_eq_true (by first | (with_reducible assumption) | assumption); have hx51 := bt_at a0 (ji48); replace p51 := eq_true p51; replace q51 := eq_true q51; have p55 : 0 ≤ ((ji52) : Int) := of_decide_eq_true (by first | (with_reducible assumption) | assumption); have q55 : (ji52) < (a0.size : Int) := of_decide_eq_true (by first | (with_reducible assumption) | assumption); have hx55 := bt_at a0 (ji52); replace p55 := eq_true p55; replace q55 := eq_true q55)))
                                          go_ret2
                                          exact ⟨by first | rfl | (simp; done) | (simp only [← hji44, ← hji48, ← hji52] <;> (first | rfl | simp)) | (simp [*]; done), by repeat (first | exact Drawn0.refl _ | apply Drawn0.step)⟩
                                        · rw [if_neg c54] at H
                                          exact absurd H (by simp)
                                      · rw [if_neg c53] at H
                                        exact absurd H (by simp)
                                    · rw [if_neg c50] at H
                                      exact absurd H (by simp)
                                  · rw [if_neg c49] at H
                                    exact absurd H (by simp)
                                · rw [if_neg c46] at H
                                  exact absurd H (by simp)
                              · rw [if_neg c45] at H
                                exact absurd H (by simp)
                            · replace c43 := Bool.eq_false_iff.mpr c43
                              subst c43
                              have H1 : (some (65533, 1)) = some (r1, r2) := by rw [if_neg (show ¬ (false = true) by decide)] at H; exact H
                              clear H
                              have H := H1
                              clear H1
                              simp only [Option.some.injEq, Prod.mk.injEq] at H
                              obtain ⟨rfl, rfl⟩ := H
                              go_wp2_with (first | (go_at_call 39; (with_reducible refine (cachepotref1_follows.calls a0 (wrap64 (a1 + 1)) x7_15 x8_15 true _ A38.out).mono ?_); rintro e w' ⟨rfl, ⟨nd, rfl⟩⟩; (try first | exact ⟨rfl, _, World.drewN_drewN _ _ _⟩ | exact ⟨rfl, _, Eq.trans (World.drewN_drewN _ _ _) (congrArg (World.drewN _) (Nat.add_assoc _ _ _))⟩)) | (go_at_call 39; (with_reducible refine (cachepotref1_follows.calls a0 (wrap64 (a1 + 2)) 128 191 true _ A40.out).mono ?_); rintro e w' ⟨rfl, ⟨nd, rfl⟩⟩; (try first | exact ⟨rfl, _, World.drewN_drewN _ _ _⟩ | exact ⟨rfl, _, Eq.trans (World.drewN_drewN _ _ _) (congrArg (World.drewN _) (Nat.add_assoc _ _ _))⟩)) | (go_at_call 39; (with_reducible refine (cachepotref1_follows.calls a0 (wrap64 (a1 + 3)) 128 191 false _ A42.out).mono ?_); rintro e w' ⟨rfl, ⟨nd, rfl⟩⟩; (try first | exact ⟨rfl, _, World.drewN_drewN _ _ _⟩ | exact ⟨rfl, _, Eq.trans (World.drewN_drewN _ _ _) (congrArg (World.drewN _) (Nat.add_assoc _ _ _))⟩)))
                              repeat (go_quiet (first | (go_at_call 39; (with_reducible refine (cachepotref1_follows.calls a0 (wrap64 (a1 + 1)) x7_15 x8_15 true _ A38.out).mono ?_); rintro e w' ⟨rfl, ⟨nd, rfl⟩⟩; (try first | exact ⟨rfl, _, World.drewN_drewN _ _ _⟩ | exact ⟨rfl, _, Eq.trans (World.drewN_drewN _ _ _) (congrArg (World.drewN _) (Nat.add_assoc _ _ _))⟩)) | (go_at_call 39; (with_reducible refine (cachepotref1_follows.calls a0 (wrap64 (a1 + 2)) 128 191 true _ A40.out).mono ?_); rintro e w' ⟨rfl, ⟨nd, rfl⟩⟩; (try first | exact ⟨rfl, _, World.drewN_drewN _ _ _⟩ | exact ⟨rfl, _, Eq.trans (World.drewN_drewN _ _ _) (congrArg (World.drewN _) (Nat.add_assoc _ _ _))⟩)) | (go_at_call 39; (with_reducible refine (cachepotref1_follows.calls a0 (wrap64 (a1 + 3)) 128 191 false _ A42.out).mono ?_); rintro e w' ⟨rfl, ⟨nd, rfl⟩⟩; (try first | exact ⟨rfl, _, World.drewN_drewN _ _ _⟩ | exact ⟨rfl, _, Eq.trans (World.drewN_drewN _ _ _) (congrArg (World.drewN _) (Nat.add_assoc _ _ _))⟩))); try go_wp2_with (first | (go_at_call 39; (with_reducible refine (cachepotref1_follows.calls a0 (wrap64 (a1 + 1)) x7_15 x8_15 true _ A38.out).mono ?_); rintro e w' ⟨rfl, ⟨nd, rfl⟩⟩; (try first | exact ⟨rfl, _, World.drewN_drewN _ _ _⟩ | exact ⟨rfl, _, Eq.trans (World.drewN_drewN _ _ _) (congrArg (World.drewN _) (Nat.add_assoc _ _ _))⟩)) | (go_at_call 39; (with_reducible refine (cachepotref1_follows.calls a0 (wrap64 (a1 + 2)) 128 191 true _ A40.out).mono ?_); rintro e w' ⟨rfl, ⟨nd, rfl⟩⟩; (try first | exact ⟨rfl, _, World.drewN_drewN _ _ _⟩ | exact ⟨rfl, _, Eq.trans (World.drewN_drewN _ _ _) (congrArg (World.drewN _) (Nat.add_assoc _ _ _))⟩)) | (go_at_call 39; (with_reducible refine (cachepotref1_follows.calls a0 (wrap64 (a1 + 3)) 128 191 false _ A42.out).mono ?_); rintro e w' ⟨rfl, ⟨nd, rfl⟩⟩; (try first | exact ⟨rfl, _, World.drewN_drewN _ _ _⟩ | exact ⟨rfl, _, Eq.trans (World.drewN_drewN _ _ _) (congrArg (World.drewN _) (Nat.add_assoc _ _ _))⟩))))
                              go_ret2
                              exact ⟨by first | rfl | (simp; done) | (simp [*]; done), by repeat (first | exact Drawn0.refl _ | apply Drawn0.step)⟩
                          · replace c41 := Bool.eq_false_iff.mpr c41
                            subst c41
                            have H1 : (some (65533, 1)) = some (r1, r2) := by rw [if_neg (show ¬ (false = true) by decide)] at H; exact H
                            clear H
                            have H := H1
                            clear H1
                            simp only [Option.some.injEq, Prod.mk.injEq] at H
                            obtain ⟨rfl, rfl⟩ := H
                            go_wp2_with (first | (go_at_call 39; (with_reducible refine (cachepotref1_follows.calls a0 (wrap64 (a1 + 1)) x7_15 x8_15 true _ A38.out).mono ?_); rintro e w' ⟨rfl, ⟨nd, rfl⟩⟩; (try first | exact ⟨rfl, _, World.drewN_drewN _ _ _⟩ | exact ⟨rfl, _, Eq.trans (World.drewN_drewN _ _ _) (congrArg (World.drewN _) (Nat.add_assoc _ _ _))⟩)) | (go_at_call 39; (with_reducible refine (cachepotref1_follows.calls a0 (wrap64 (a1 + 2)) 128 191 false _ A40.out).mono ?_); rintro e w' ⟨rfl, ⟨nd, rfl⟩⟩; (try first | exact ⟨rfl, _, World.drewN_drewN _ _ _⟩ | exact ⟨rfl, _, Eq.trans (World.drewN_drewN _ _ _) (congrArg (World.drewN _) (Nat.add_assoc _ _ _))⟩)))
                            repeat (go_quiet (first | (go_at_call 39; (with_reducible refine (cachepotref1_follows.calls a0 (wrap64 (a1 + 1)) x7_15 x8_15 true _ A38.out).mono ?_); rintro e w' ⟨rfl, ⟨nd, rfl⟩⟩; (try first | exact ⟨rfl, _, World.drewN_drewN _ _ _⟩ | exact ⟨rfl, _, Eq.trans (World.drewN_drewN _ _ _) (congrArg (World.drewN _) (Nat.add_assoc _ _ _))⟩)) | (go_at_call 39; (with_reducible refine (cachepotref1_follows.calls a0 (wrap64 (a1 + 2)) 128 191 false _ A40.out).mono ?_); rintro e w' ⟨rfl, ⟨nd, rfl⟩⟩; (try first | exact ⟨rfl, _, World.drewN_drewN _ _ _⟩ | exact ⟨rfl, _, Eq.trans (World.drewN_drewN _ _ _) (congrArg (World.drewN _) (Nat.add_assoc _ _ _))⟩))); try go_wp2_with (first | (go_at_call 39; (with_reducible refine (cachepotref1_follows.calls a0 (wrap64 (a1 + 1)) x7_15 x8_15 true _ A38.out).mono ?_); rintro e w' ⟨rfl, ⟨nd, rfl⟩⟩; (try first | exact ⟨rfl, _, World.drewN_drewN _ _ _⟩ | exact ⟨rfl, _, Eq.trans (World.drewN_drewN _ _ _) (congrArg (World.drewN _) (Nat.add_assoc _ _ _))⟩)) | (go_at_call 39; (with_reducible refine (cachepotref1_follows.calls a0 (wrap64 (a1 + 2)) 128 191 false _ A40.out).mono ?_); rintro e w' ⟨rfl, ⟨nd, rfl⟩⟩; (try first | exact ⟨rfl, _, World.drewN_drewN _ _ _⟩ | exact ⟨rfl, _, Eq.trans (World.drewN_drewN _ _ _) (congrArg (World.drewN _) (Nat.add_assoc _ _ _))⟩))))
                            go_ret2
                            exact ⟨by first | rfl | (simp; done) | (simp [*]; done), by repeat (first | exact Drawn0.refl _ | apply Drawn0.step)⟩
                        · replace c39 := Bool.eq_false_iff.mpr c39
                          subst c39
                          have H1 : (some (65533, 1)) = some (r1, r2) := by rw [if_neg (show ¬ (false = true) by decide)] at H; exact H
                          clear H
                          have H := H1
                          clear H1
                          simp only [Option.some.injEq, Prod.mk.injEq] at H
                          obtain ⟨rfl, rfl⟩ := H
                          go_wp2_with (first | (go_at_call 39; (with_reducible refine (cachepotref1_follows.calls a0 (wrap64 (a1 + 1)) x7_15 x8_15 false _ A38.out).mono ?_); rintro e w' ⟨rfl, ⟨nd, rfl⟩⟩; (try first | exact ⟨rfl, _, World.drewN_drewN _ _ _⟩ | exact ⟨rfl, _, Eq.trans (World.drewN_drewN _ _ _) (congrArg (World.drewN _) (Nat.add_assoc _ _ _))⟩)))
                          repeat (go_quiet (first | (go_at_call 39; (with_reducible refine (cachepotref1_follows.calls a0 (wrap64 (a1 + 1)) x7_15 x8_15 false _ A38.out).mono ?_); rintro e w' ⟨rfl, ⟨nd, rfl⟩⟩; (try first | exact ⟨rfl, _, World.drewN_drewN _ _ _⟩ | exact ⟨rfl, _, Eq.trans (World.drewN_drewN _ _ _) (congrArg (World.drewN _) (Nat.add_assoc _ _ _))⟩))); try go_wp2_with (first | (go_at_call 39; (with_reducible refine (cachepotref1_follows.calls a0 (wrap64 (a1 + 1)) x7_15 x8_15 false _ A38.out).mono ?_); rintro e w' ⟨rfl, ⟨nd, rfl⟩⟩; (try first | exact ⟨rfl, _, World.drewN_drewN _ _ _⟩ | exact ⟨rfl, _, Eq.trans (World.drewN_drewN _ _ _) (congrArg (World.drewN _) (Nat.add_assoc _ _ _))⟩))))
                          go_ret2
                          exact ⟨by first | rfl | (simp; done) | (simp [*]; done), by repeat (first | exact Drawn0.refl _ | apply Drawn0.step)⟩
                      · rw [if_neg c37] at H
                        have c37b0 : decide ((bt a0 a1) ≤ 244) = false := decide_eq_false c37
                        clear c37
                        simp only [Option.some.injEq, Prod.mk.injEq] at H
                        obtain ⟨rfl, rfl⟩ := H
                        go_wp2
                        repeat (go_quiet (fail); try go_wp2)
                        go_ret2
                        exact ⟨by first | rfl | (simp; done) | (simp [*]; done), by repeat (first | exact Drawn0.refl _ | apply Drawn0.step)⟩
                    · rw [if_neg c36] at H
                      have c36b0 : decide (240 ≤ (bt a0 a1)) = false := decide_eq_false c36
                      clear c36
                      simp only [Option.some.injEq, Prod.mk.injEq] at H
                      obtain ⟨rfl, rfl⟩ := H
                      go_wp2
                      repeat (go_quiet (fail); try go_wp2)
                      go_ret2
                      exact ⟨by first | rfl | (simp; done) | (simp [*]; done), by repeat (first | exact Drawn0.refl _ | apply Drawn0.step)⟩
    · rw [if_neg c4] at H
      exact absurd H (by simp)
  · rw [if_neg c3] at H
    exact absurd H (by simp)
def cachepotref1_Plain.f (a0 : Int) (a1 : Int) : Option (Bool) := if a0 ≥ 33 then (if a0 ≥ 127 then (if a0 ≤ 160 then (some false) else (if a0 = 65533 then (some (!(a1 == 1))) else (some (!false)))) else (if a0 = 65533 then (some (!(a1 == 1))) else (some (!false)))) else (some false)
set_option maxHeartbeats 8000000 in
set_option maxRecDepth 100000 in
theorem cachepotref1_Plain.calls (a0 : Int) (a1 : Int) (r : Bool) (w : World) (h : cachepotref1_Plain.f a0 a1 = some r) :
    Calls Tryz.prog 38 #[.int .i64 a0, .int .i64 a1] w fun e w' => e = .returned (.bool r) ∧ Drawn0 w w' := by
  have H : (if a0 ≥ 33 then (if a0 ≥ 127 then (if a0 ≤ 160 then (some false) else (if a0 = 65533 then (some (!(a1 == 1))) else (some (!false)))) else (if a0 = 65533 then (some (!(a1 == 1))) else (some (!false)))) else (some false)) = some r := h
  clear h
  by_cases c3 : a0 ≥ 33
  · rw [if_pos c3] at H
    have c3b0 : decide (33 ≤ a0) = true := decide_eq_true c3
    clear c3
    by_cases c4 : a0 ≥ 127
    · rw [if_pos c4] at H
      have c4b0 : decide (127 ≤ a0) = true := decide_eq_true c4
      clear c4
      by_cases c5 : a0 ≤ 160
      · rw [if_pos c5] at H
        have c5b0 : decide (a0 ≤ 160) = true := decide_eq_true c5
        clear c5
        obtain rfl := Option.some.inj H
        go_enter Tryz.func38, Tryz.ntmps38
        go_wp2
        go_ret
        exact ⟨by first | rfl | (simp; done) | (simp [*]; done), by repeat (first | exact Drawn0.refl _ | apply Drawn0.step)⟩
      · rw [if_neg c5] at H
        have c5b0 : decide (a0 ≤ 160) = false := decide_eq_false c5
        clear c5
        by_cases c6 : a0 = 65533
        · rw [if_pos c6] at H
          have c6b0 : (a0 == 65533) = true := beq_iff_eq.mpr c6
          have c6b1 : (a0 != 65533) = false := bne_eq_false_iff_eq.mpr c6
          clear c6
          obtain rfl := Option.some.inj H
          go_enter Tryz.func38, Tryz.ntmps38
          go_wp2
          go_ret
          exact ⟨by first | rfl | (simp; done) | (simp [*]; done), by repeat (first | exact Drawn0.refl _ | apply Drawn0.step)⟩
        · rw [if_neg c6] at H
          have c6b0 : (a0 == 65533) = false := beq_eq_false_iff_ne.mpr c6
          have c6b1 : (a0 != 65533) = true := bne_iff_ne.mpr c6
          obtain rfl := Option.some.inj H
          go_enter Tryz.func38, Tryz.ntmps38
          go_wp2
          go_ret
          exact ⟨by first | rfl | (simp; done) | (simp [*]; done), by repeat (first | exact Drawn0.refl _ | apply Drawn0.step)⟩
    · rw [if_neg c4] at H
      have c4b0 : decide (127 ≤ a0) = false := decide_eq_false c4
      clear c4
      by_cases c7 : a0 = 65533
      · rw [if_pos c7] at H
        have c7b0 : (a0 == 65533) = true := beq_iff_eq.mpr c7
        have c7b1 : (a0 != 65533) = false := bne_eq_false_iff_eq.mpr c7
        clear c7
        obtain rfl := Option.some.inj H
        go_enter Tryz.func38, Tryz.ntmps38
        go_wp2
        go_ret
        exact ⟨by first | rfl | (simp; done) | (simp [*]; done), by repeat (first | exact Drawn0.refl _ | apply Drawn0.step)⟩
      · rw [if_neg c7] at H
        have c7b0 : (a0 == 65533) = false := beq_eq_false_iff_ne.mpr c7
        have c7b1 : (a0 != 65533) = true := bne_iff_ne.mpr c7
        obtain rfl := Option.some.inj H
        go_enter Tryz.func38, Tryz.ntmps38
        go_wp2
        go_ret
        exact ⟨by first | rfl | (simp; done) | (simp [*]; done), by repeat (first | exact Drawn0.refl _ | apply Drawn0.step)⟩
  · rw [if_neg c3] at H
    have c3b0 : decide (33 ≤ a0) = false := decide_eq_false c3
    clear c3
    obtain rfl := Option.some.inj H
    go_enter Tryz.func38, Tryz.ntmps38
    go_wp2
    go_ret
    exact ⟨by first | rfl | (simp; done) | (simp [*]; done), by repeat (first | exact Drawn0.refl _ | apply Drawn0.step)⟩
def cachepotref3_plain.f (k : Nat) (a0 : ByteArray) (a1 : Int) : Option (Int) := (cachepotref1_Rune.f k a0 a1).bind fun bt113 => ((cachepotref1_Plain.f bt113.1 bt113.2).bind fun t115 => (if t115 = true then (if bt113.1 = 34 then (some 0) else (if bt113.1 = 92 then (some 0) else (some bt113.2))) else (some 0)))
set_option maxHeartbeats 8000000 in
set_option maxRecDepth 100000 in
theorem cachepotref3_plain.calls (k : Nat) (a0 : ByteArray) (a1 : Int) (r : Int) (w : World) (h : cachepotref3_plain.f k a0 a1 = some r) :
    Calls Tryz.prog 25 #[.string a0, .int .i64 a1] w fun e w' => e = .returned (.int .i64 r) ∧ Drawn0 w w' := by
  have H : ((cachepotref1_Rune.f k a0 a1).bind fun bt113 => ((cachepotref1_Plain.f bt113.1 bt113.2).bind fun t115 => (if t115 = true then (if bt113.1 = 34 then (some 0) else (if bt113.1 = 92 then (some 0) else (some bt113.2))) else (some 0)))) = some r := h
  clear h
  replace H := Option.bind_eq_some_iff.mp H
  obtain ⟨⟨t113, t114⟩, A30, H⟩ := H
  replace H : ((cachepotref1_Plain.f t113 t114).bind fun t115 => (if t115 = true then (if t113 = 34 then (some 0) else (if t113 = 92 then (some 0) else (some t114))) else (some 0))) = some r := H
  have A3 := Aside0.mk A30
  clear A30
  replace H := Option.bind_eq_some_iff.mp H
  obtain ⟨t115, A40, H⟩ := H
  replace H : (if t115 = true then (if t113 = 34 then (some 0) else (if t113 = 92 then (some 0) else (some t114))) else (some 0)) = some r := H
  have A4 := Aside0.mk A40
  clear A40
  by_cases c5 : t115 = true
  · subst c5
    have H1 : (if t113 = 34 then (some 0) else (if t113 = 92 then (some 0) else (some t114))) = some r := by rw [if_pos rfl] at H; exact H
    clear H
    have H := H1
    clear H1
    by_cases c6 : t113 = 34
    · rw [if_pos c6] at H
      have c6b0 : (t113 == 34) = true := beq_iff_eq.mpr c6
      have c6b1 : (t113 != 34) = false := bne_eq_false_iff_eq.mpr c6
      clear c6
      obtain rfl := Option.some.inj H
      go_enter Tryz.func25, Tryz.ntmps25
      go_wp2_with (first | ((with_reducible refine gate_callee (f := 26) rfl ?_); refine goesL_ (some 10) rfl rfl Tryz.func26 (by kernel_rfl) rfl #[.string a0, .int .i64 a1] rfl (by (try simp only [List.map_toArray, List.map_cons, List.map_nil]); first | done | rfl | (simp only [List.length_drop, List.length_take]; rfl)) ?_; (with_reducible refine (cachepotref1_Rune.calls k a0 a1 t113 t114 _ A3.out).mono ?_); rintro e w' ⟨rfl, ⟨nd, rfl⟩⟩; refine ⟨_, rfl, ?_⟩) | ((with_reducible refine gate_callee (f := 38) rfl ?_); refine goesL_ (some 15) rfl rfl Tryz.func38 (by kernel_rfl) rfl #[.int .i64 t113, .int .i64 t114] rfl (by (try simp only [List.map_toArray, List.map_cons, List.map_nil]); first | done | rfl | (simp only [List.length_drop, List.length_take]; rfl)) ?_; (with_reducible refine (cachepotref1_Plain.calls t113 t114 true _ A4.out).mono ?_); rintro e w' ⟨rfl, ⟨nd, rfl⟩⟩; refine ⟨_, rfl, ?_⟩))
      go_ret
      exact ⟨by first | rfl | (simp; done) | (simp [*]; done), by repeat (first | exact Drawn0.refl _ | apply Drawn0.step)⟩
    · rw [if_neg c6] at H
      have c6b0 : (t113 == 34) = false := beq_eq_false_iff_ne.mpr c6
      have c6b1 : (t113 != 34) = true := bne_iff_ne.mpr c6
      by_cases c7 : t113 = 92
      · rw [if_pos c7] at H
        have c7b0 : (t113 == 92) = true := beq_iff_eq.mpr c7
        have c7b1 : (t113 != 92) = false := bne_eq_false_iff_eq.mpr c7
        clear c7
        obtain rfl := Option.some.inj H
        go_enter Tryz.func25, Tryz.ntmps25
        go_wp2_with (first | ((with_reducible refine gate_callee (f := 26) rfl ?_); refine goesL_ (some 10) rfl rfl Tryz.func26 (by kernel_rfl) rfl #[.string a0, .int .i64 a1] rfl (by (try simp only [List.map_toArray, List.map_cons, List.map_nil]); first | done | rfl | (simp only [List.length_drop, List.length_take]; rfl)) ?_; (with_reducible refine (cachepotref1_Rune.calls k a0 a1 t113 t114 _ A3.out).mono ?_); rintro e w' ⟨rfl, ⟨nd, rfl⟩⟩; refine ⟨_, rfl, ?_⟩) | ((with_reducible refine gate_callee (f := 38) rfl ?_); refine goesL_ (some 15) rfl rfl Tryz.func38 (by kernel_rfl) rfl #[.int .i64 t113, .int .i64 t114] rfl (by (try simp only [List.map_toArray, List.map_cons, List.map_nil]); first | done | rfl | (simp only [List.length_drop, List.length_take]; rfl)) ?_; (with_reducible refine (cachepotref1_Plain.calls t113 t114 true _ A4.out).mono ?_); rintro e w' ⟨rfl, ⟨nd, rfl⟩⟩; refine ⟨_, rfl, ?_⟩))
        go_ret
        exact ⟨by first | rfl | (simp; done) | (simp [*]; done), by repeat (first | exact Drawn0.refl _ | apply Drawn0.step)⟩
      · rw [if_neg c7] at H
        have c7b0 : (t113 == 92) = false := beq_eq_false_iff_ne.mpr c7
        have c7b1 : (t113 != 92) = true := bne_iff_ne.mpr c7
        obtain rfl := Option.some.inj H
        go_enter Tryz.func25, Tryz.ntmps25
        go_wp2_with (first | ((with_reducible refine gate_callee (f := 26) rfl ?_); refine goesL_ (some 10) rfl rfl Tryz.func26 (by kernel_rfl) rfl #[.string a0, .int .i64 a1] rfl (by (try simp only [List.map_toArray, List.map_cons, List.map_nil]); first | done | rfl | (simp only [List.length_drop, List.length_take]; rfl)) ?_; (with_reducible refine (cachepotref1_Rune.calls k a0 a1 t113 t114 _ A3.out).mono ?_); rintro e w' ⟨rfl, ⟨nd, rfl⟩⟩; refine ⟨_, rfl, ?_⟩) | ((with_reducible refine gate_callee (f := 38) rfl ?_); refine goesL_ (some 15) rfl rfl Tryz.func38 (by kernel_rfl) rfl #[.int .i64 t113, .int .i64 t114] rfl (by (try simp only [List.map_toArray, List.map_cons, List.map_nil]); first | done | rfl | (simp only [List.length_drop, List.length_take]; rfl)) ?_; (with_reducible refine (cachepotref1_Plain.calls t113 t114 true _ A4.out).mono ?_); rintro e w' ⟨rfl, ⟨nd, rfl⟩⟩; refine ⟨_, rfl, ?_⟩))
        go_ret
        exact ⟨by first | rfl | (simp; done) | (simp [*]; done), by repeat (first | exact Drawn0.refl _ | apply Drawn0.step)⟩
  · replace c5 := Bool.eq_false_iff.mpr c5
    subst c5
    have H1 : (some 0) = some r := by rw [if_neg (show ¬ (false = true) by decide)] at H; exact H
    clear H
    have H := H1
    clear H1
    obtain rfl := Option.some.inj H
    go_enter Tryz.func25, Tryz.ntmps25
    go_wp2_with (first | ((with_reducible refine gate_callee (f := 26) rfl ?_); refine goesL_ (some 10) rfl rfl Tryz.func26 (by kernel_rfl) rfl #[.string a0, .int .i64 a1] rfl (by (try simp only [List.map_toArray, List.map_cons, List.map_nil]); first | done | rfl | (simp only [List.length_drop, List.length_take]; rfl)) ?_; (with_reducible refine (cachepotref1_Rune.calls k a0 a1 t113 t114 _ A3.out).mono ?_); rintro e w' ⟨rfl, ⟨nd, rfl⟩⟩; refine ⟨_, rfl, ?_⟩) | ((with_reducible refine gate_callee (f := 38) rfl ?_); refine goesL_ (some 15) rfl rfl Tryz.func38 (by kernel_rfl) rfl #[.int .i64 t113, .int .i64 t114] rfl (by (try simp only [List.map_toArray, List.map_cons, List.map_nil]); first | done | rfl | (simp only [List.length_drop, List.length_take]; rfl)) ?_; (with_reducible refine (cachepotref1_Plain.calls t113 t114 false _ A4.out).mono ?_); rintro e w' ⟨rfl, ⟨nd, rfl⟩⟩; refine ⟨_, rfl, ?_⟩))
    go_ret
    exact ⟨by first | rfl | (simp; done) | (simp [*]; done), by repeat (first | exact Drawn0.refl _ | apply Drawn0.step)⟩
end Go.Proofs.YtkehbnkfgbcpnaaGreatDoor.Wd
end

section
namespace Go.Proofs.YtkehbnkfgbcpnaaGreatDoor.Wd
open Go.RowKit Go.Proofs.YtkehbnkfgbcpnaaGreatDoorW.PrintWords Go.Proofs.YtkehbnkfgbcpnaaGreatDoorW.PrintLast
set_option maxRecDepth 100000 in
theorem and31 : ∀ x : Fin 256, Go.bits .and .u8 ((x.val : Nat) : Int) 31 = ((x.val % 32 : Nat) : Int) := by decide
set_option maxRecDepth 100000 in
theorem and15 : ∀ x : Fin 256, Go.bits .and .u8 ((x.val : Nat) : Int) 15 = ((x.val % 16 : Nat) : Int) := by decide
set_option maxRecDepth 100000 in
theorem and7 : ∀ x : Fin 256, Go.bits .and .u8 ((x.val : Nat) : Int) 7 = ((x.val % 8 : Nat) : Int) := by decide
set_option maxRecDepth 100000 in
theorem and63 : ∀ x : Fin 256, Go.bits .and .u8 ((x.val : Nat) : Int) 63 = ((x.val % 64 : Nat) : Int) := by decide
theorem follows_f (s : ByteArray) (i : Nat) (lo hi : Int) : cachepotref1_follows.f s (i : Int) lo hi = some (decide (i < s.size ∧ lo ≤ ((s.get! i).toNat : Int) ∧ ((s.get! i).toNat : Int) ≤ hi)) := by
  unfold cachepotref1_follows.f
  have e : bt s (i : Int) = ((s.get! i).toNat : Int) := by rw [bt_get]; rfl
  rw [e]
  by_cases h1 : i < s.size
  · rw [if_pos (by omega), if_pos (by omega)]
    by_cases h2 : ((s.get! i).toNat : Int) ≥ lo
    · rw [if_pos h2]
      congr 1
      rw [decide_eq_decide]
      exact ⟨fun h => ⟨h1, h2, h⟩, fun h => h.2.2⟩
    · rw [if_neg h2]
      congr 1
      rw [eq_comm, decide_eq_false_iff_not]
      exact fun h => h2 h.2.1
  · rw [if_neg (by omega)]
    congr 1
    rw [eq_comm, decide_eq_false_iff_not]
    exact fun h => h1 h.1
theorem w64 (x : Int) (h0 : -9223372036854775808 ≤ x) (h1 : x ≤ 9223372036854775807) : wrap64 x = x := by unfold wrap64; omega
/-- the shape of the reference's Rune, in numbers: n bytes are left, b0 .. b3 stand there, L and H bound the second -/
def refN (n b0 b1 b2 b3 L H : Nat) : Nat × Nat :=
  if b0 < 128 then (b0, 1)
  else if (194 ≤ b0 ∧ b0 ≤ 223) ∧ (1 < n ∧ 128 ≤ b1 ∧ b1 ≤ 191) then (b0 % 32 * 64 + b1 % 64, 2)
  else if (224 ≤ b0 ∧ b0 ≤ 239) ∧ (1 < n ∧ L ≤ b1 ∧ b1 ≤ H) ∧ (2 < n ∧ 128 ≤ b2 ∧ b2 ≤ 191) then (b0 % 16 * 4096 + b1 % 64 * 64 + b2 % 64, 3)
  else if (240 ≤ b0 ∧ b0 ≤ 244) ∧ (1 < n ∧ L ≤ b1 ∧ b1 ≤ H) ∧ (2 < n ∧ 128 ≤ b2 ∧ b2 ≤ 191) ∧ (3 < n ∧ 128 ≤ b3 ∧ b3 ≤ 191) then (b0 % 8 * 262144 + b1 % 64 * 4096 + b2 % 64 * 64 + b3 % 64, 4)
  else (65533, 1)
def LowOk (b0 L : Nat) : Prop := (b0 = 224 ∧ L = 160) ∨ (b0 = 240 ∧ L = 144) ∨ (b0 ≠ 224 ∧ b0 ≠ 240 ∧ L = 128)
def HighOk (b0 H : Nat) : Prop := (b0 = 237 ∧ H = 159) ∨ (b0 = 244 ∧ H = 143) ∨ (b0 ≠ 237 ∧ b0 ≠ 244 ∧ H = 191)
set_option maxHeartbeats 4000000 in
set_option maxRecDepth 100000 in
theorem refN_eq (n b0 b1 b2 b3 L H : Nat) (h0 : b0 < 256) (h1 : b1 < 256) (h2 : b2 < 256) (h3 : b3 < 256) (hL : LowOk b0 L) (hH : HighOk b0 H) : refN n b0 b1 b2 b3 L H = Lib.decodeN n b0 b1 b2 b3 := by
  unfold refN Lib.decodeN
  unfold LowOk at hL
  unfold HighOk at hH
  by_cases c0 : b0 < 128
  · rw [if_pos c0, if_pos c0]
  rw [if_neg c0, if_neg c0]
  by_cases c1 : (194 ≤ b0 ∧ b0 ≤ 223) ∧ (1 < n ∧ 128 ≤ b1 ∧ b1 ≤ 191)
  · rw [if_pos c1, if_pos (by omega), if_pos (by omega)]
  rw [if_neg c1]
  by_cases d1 : b0 / 32 = 6 ∧ (1 < n ∧ b1 / 64 = 2)
  · rw [if_pos d1, if_neg (by omega), if_neg (by omega), if_neg (by omega)]
  rw [if_neg d1]
  by_cases d2 : b0 / 16 = 14 ∧ (1 < n ∧ b1 / 64 = 2) ∧ (2 < n ∧ b2 / 64 = 2)
  · rw [if_pos d2]
    by_cases c2 : (224 ≤ b0 ∧ b0 ≤ 239) ∧ (1 < n ∧ L ≤ b1 ∧ b1 ≤ H) ∧ (2 < n ∧ 128 ≤ b2 ∧ b2 ≤ 191)
    · rw [if_pos c2, if_pos (by omega)]
    · rw [if_neg c2, if_neg (by omega), if_neg (by omega)]
  rw [if_neg d2, if_neg (by omega)]
  by_cases d3 : b0 / 8 = 30 ∧ (1 < n ∧ b1 / 64 = 2) ∧ (2 < n ∧ b2 / 64 = 2) ∧ (3 < n ∧ b3 / 64 = 2)
  · rw [if_pos d3]
    by_cases c3 : (240 ≤ b0 ∧ b0 ≤ 244) ∧ (1 < n ∧ L ≤ b1 ∧ b1 ≤ H) ∧ (2 < n ∧ 128 ≤ b2 ∧ b2 ≤ 191) ∧ (3 < n ∧ 128 ≤ b3 ∧ b3 ≤ 191)
    · rw [if_pos c3, if_pos (by omega)]
    · rw [if_neg c3, if_neg (by omega)]
  rw [if_neg d3, if_neg (by omega)]
theorem Rune_j0 (k : Nat) (s : ByteArray) (x : Int) (b0 : Nat) : ∃ L H : Nat, LowOk b0 L ∧ HighOk b0 H ∧ (224 ≤ b0 → cachepotref1_Rune.j0 (k + 1) s x (b0 : Int) = cachepotref1_Rune.j1 k s x (b0 : Int) (L : Int) (H : Int)) ∧ (b0 < 224 → cachepotref1_Rune.j0 (k + 1) s x (b0 : Int) = cachepotref1_Rune.j1 k s x (b0 : Int) 128 191) := by
  rw [cachepotref1_Rune.j0]
  by_cases x1 : b0 = 224
  · subst x1; exact ⟨160, 191, by unfold LowOk; omega, by unfold HighOk; omega, fun _ => rfl, fun h => by omega⟩
  by_cases x2 : b0 = 237
  · subst x2; exact ⟨128, 159, by unfold LowOk; omega, by unfold HighOk; omega, fun _ => rfl, fun h => by omega⟩
  by_cases x3 : b0 = 240
  · subst x3; exact ⟨144, 191, by unfold LowOk; omega, by unfold HighOk; omega, fun _ => rfl, fun h => by omega⟩
  by_cases x4 : b0 = 244
  · subst x4; exact ⟨128, 143, by unfold LowOk; omega, by unfold HighOk; omega, fun _ => rfl, fun h => by omega⟩
  rw [if_neg (by omega), if_neg (by omega), if_neg (by omega), if_neg (by omega)]
  exact ⟨128, 191, by unfold LowOk; omega, by unfold HighOk; omega, fun _ => rfl, fun _ => rfl⟩
def refY (n b0 b1 b2 b3 L H y32 y16 y8 y1 y2 y3 : Nat) : Nat × Nat :=
  if b0 < 128 then (b0, 1)
  else if (194 ≤ b0 ∧ b0 ≤ 223) ∧ (1 < n ∧ 128 ≤ b1 ∧ b1 ≤ 191) then (y32 * 64 + y1, 2)
  else if (224 ≤ b0 ∧ b0 ≤ 239) ∧ (1 < n ∧ L ≤ b1 ∧ b1 ≤ H) ∧ (2 < n ∧ 128 ≤ b2 ∧ b2 ≤ 191) then (y16 * 4096 + y1 * 64 + y2, 3)
  else if (240 ≤ b0 ∧ b0 ≤ 244) ∧ (1 < n ∧ L ≤ b1 ∧ b1 ≤ H) ∧ (2 < n ∧ 128 ≤ b2 ∧ b2 ≤ 191) ∧ (3 < n ∧ 128 ≤ b3 ∧ b3 ≤ 191) then (y8 * 262144 + y1 * 4096 + y2 * 64 + y3, 4)
  else (65533, 1)
set_option maxHeartbeats 4000000 in
set_option maxRecDepth 100000 in
theorem Rune_core (k : Nat) (s : ByteArray) (i : Nat) (hi : i < s.size) (hs : s.size ≤ 1099511627776) (b0 b1 b2 b3 L H y32 y16 y8 y1 y2 y3 : Nat)
    (e0 : Aside0 (bt s (i : Int) = (b0 : Int))) (e1 : Aside0 (bt s ((i + 1 : Nat) : Int) = (b1 : Int))) (e2 : Aside0 (bt s ((i + 2 : Nat) : Int) = (b2 : Int))) (e3 : Aside0 (bt s ((i + 3 : Nat) : Int) = (b3 : Int)))
    (f1 : ∀ lo hi : Int, cachepotref1_follows.f s ((i + 1 : Nat) : Int) lo hi = some (decide (i + 1 < s.size ∧ lo ≤ (b1 : Int) ∧ (b1 : Int) ≤ hi)))
    (f2 : ∀ lo hi : Int, cachepotref1_follows.f s ((i + 2 : Nat) : Int) lo hi = some (decide (i + 2 < s.size ∧ lo ≤ (b2 : Int) ∧ (b2 : Int) ≤ hi)))
    (f3 : ∀ lo hi : Int, cachepotref1_follows.f s ((i + 3 : Nat) : Int) lo hi = some (decide (i + 3 < s.size ∧ lo ≤ (b3 : Int) ∧ (b3 : Int) ≤ hi)))
    (hj0 : Aside0 (224 ≤ b0 → cachepotref1_Rune.j0 (k + 3) s (i : Int) (b0 : Int) = cachepotref1_Rune.j1 (k + 2) s (i : Int) (b0 : Int) (L : Int) (H : Int)))
    (hj0' : Aside0 (b0 < 224 → cachepotref1_Rune.j0 (k + 3) s (i : Int) (b0 : Int) = cachepotref1_Rune.j1 (k + 2) s (i : Int) (b0 : Int) 128 191))
    (a31 : Aside0 (Go.bits .and .u8 (b0 : Int) 31 = (y32 : Int))) (a15 : Aside0 (Go.bits .and .u8 (b0 : Int) 15 = (y16 : Int))) (a7 : Aside0 (Go.bits .and .u8 (b0 : Int) 7 = (y8 : Int)))
    (m1 : Aside0 (Go.bits .and .u8 (b1 : Int) 63 = (y1 : Int))) (m2 : Aside0 (Go.bits .and .u8 (b2 : Int) 63 = (y2 : Int))) (m3 : Aside0 (Go.bits .and .u8 (b3 : Int) 63 = (y3 : Int)))
    (h0 : b0 < 256) (q0 : y32 < 32) (q1 : y16 < 16) (q2 : y8 < 8) (q3 : y1 < 64) (q4 : y2 < 64) (q5 : y3 < 64) :
    cachepotref1_Rune.f (k + 3) s (i : Int) = some (((refY (s.size - i) b0 b1 b2 b3 L H y32 y16 y8 y1 y2 y3).1 : Int), ((refY (s.size - i) b0 b1 b2 b3 L H y32 y16 y8 y1 y2 y3).2 : Int)) := by
  have w1 : Aside0 (wrap64 ((i : Int) + 1) = ((i + 1 : Nat) : Int)) := ⟨by
    have e := w64 ((i : Int) + 1) (by omega) (by omega)
    rw [e]
    rfl⟩
  have w2 : Aside0 (wrap64 ((i : Int) + 2) = ((i + 2 : Nat) : Int)) := ⟨by
    have e := w64 ((i : Int) + 2) (by omega) (by omega)
    rw [e]
    rfl⟩
  have w3 : Aside0 (wrap64 ((i : Int) + 3) = ((i + 3 : Nat) : Int)) := ⟨by
    have e := w64 ((i : Int) + 3) (by omega) (by omega)
    rw [e]
    rfl⟩
  unfold cachepotref1_Rune.f
  rw [if_pos (by omega), if_pos (by omega), e0.out]
  by_cases c0 : b0 < 128
  · rw [if_pos (by omega), w64 (b0 : Int) (by omega) (by omega), refY, if_pos c0]
    rfl
  rw [if_neg (by omega)]
  -- a lead byte of three or four, or none
  have hno : ∀ x l h : Int, b0 < 240 → cachepotref1_Rune.j2 (k + 1) s x (b0 : Int) l h false = some (65533, 1) := by
    intro x l h hb
    rw [cachepotref1_Rune.j2, if_neg (by simp), if_neg (by omega)]
  have hj : ¬ ((194 ≤ b0 ∧ b0 ≤ 223) ∧ (1 < s.size - i ∧ 128 ≤ b1 ∧ b1 ≤ 191)) → cachepotref1_Rune.j0 (k + 3) s (i : Int) (b0 : Int) = some (((refY (s.size - i) b0 b1 b2 b3 L H y32 y16 y8 y1 y2 y3).1 : Int), ((refY (s.size - i) b0 b1 b2 b3 L H y32 y16 y8 y1 y2 y3).2 : Int)) := by
    intro c1
    rw [refY, if_neg c0, if_neg c1]
    by_cases x0 : b0 < 224
    · rw [hj0'.out x0, cachepotref1_Rune.j1, if_neg (by omega), hno _ _ _ (by omega), if_neg (by omega), if_neg (by omega)]
      rfl
    rw [hj0.out (by omega), cachepotref1_Rune.j1, if_pos (by omega)]
    by_cases x1 : b0 ≤ 239
    · rw [if_pos (by omega), w1.out, f1, w2.out]
      simp only [Option.bind_some, decide_eq_true_eq]
      by_cases z1 : i + 1 < s.size ∧ ((L : Int) ≤ (b1 : Int) ∧ (b1 : Int) ≤ (H : Int))
      · rw [if_pos z1, f2]
        simp only [Option.bind_some]
        by_cases z2 : i + 2 < s.size ∧ ((128 : Int) ≤ (b2 : Int) ∧ (b2 : Int) ≤ 191)
        · rw [decide_eq_true z2, cachepotref1_Rune.j2, if_pos rfl, w1.out, w2.out, if_pos (by omega), if_pos (by omega), if_pos (by omega), if_pos (by omega), e1.out, e2.out, a15.out, m1.out, m2.out, if_pos (by omega)]
          simp (disch := omega) only [w64]
          simp only [Option.some.injEq, Prod.mk.injEq]
          omega
        · rw [decide_eq_false z2, hno _ _ _ (by omega), if_neg (by omega), if_neg (by omega)]
          rfl
      · rw [if_neg z1, hno _ _ _ (by omega), if_neg (by omega), if_neg (by omega)]
        rfl
    · rw [if_neg (by omega), cachepotref1_Rune.j2, if_neg (by simp), if_pos (by omega), if_neg (show ¬ ((224 ≤ b0 ∧ b0 ≤ 239) ∧ _) from fun h => x1 h.1.2)]
      by_cases x2 : b0 ≤ 244
      · rw [if_pos (by omega), w1.out, f1]
        simp only [Option.bind_some, decide_eq_true_eq]
        by_cases z1 : i + 1 < s.size ∧ ((L : Int) ≤ (b1 : Int) ∧ (b1 : Int) ≤ (H : Int))
        · rw [if_pos z1, w2.out, f2]
          simp only [Option.bind_some, decide_eq_true_eq]
          by_cases z2 : i + 2 < s.size ∧ ((128 : Int) ≤ (b2 : Int) ∧ (b2 : Int) ≤ 191)
          · rw [if_pos z2, w3.out, f3]
            simp only [Option.bind_some, decide_eq_true_eq]
            by_cases z3 : i + 3 < s.size ∧ ((128 : Int) ≤ (b3 : Int) ∧ (b3 : Int) ≤ 191)
            · rw [if_pos z3, if_pos (by omega), if_pos (by omega), if_pos (by omega), if_pos (by omega), if_pos (by omega), if_pos (by omega), e1.out, e2.out, e3.out, a7.out, m1.out, m2.out, m3.out, if_pos (by omega)]
              simp (disch := omega) only [w64]
              simp only [Option.some.injEq, Prod.mk.injEq]
              omega
            · rw [if_neg z3, if_neg (by omega)]; rfl
          · rw [if_neg z2, if_neg (by omega)]; rfl
        · rw [if_neg z1, if_neg (by omega)]; rfl
      · rw [if_neg (by omega), if_neg (by omega)]; rfl
  by_cases c1 : (194 ≤ b0 ∧ b0 ≤ 223) ∧ (1 < s.size - i ∧ 128 ≤ b1 ∧ b1 ≤ 191)
  · rw [if_pos (by omega), if_pos (by omega), w1.out, f1]
    simp only [Option.bind_some, decide_eq_true_eq]
    rw [if_pos (by omega), if_pos (by omega), if_pos (by omega), e1.out, a31.out, m1.out, refY, if_neg c0, if_pos c1]
    simp (disch := omega) only [w64]
    simp only [Option.some.injEq, Prod.mk.injEq]
    omega
  · have hj' := hj c1
    by_cases x1 : 194 ≤ b0
    · rw [if_pos (by omega)]
      by_cases x2 : b0 ≤ 223
      · rw [if_pos (by omega), w1.out, f1]
        simp only [Option.bind_some, decide_eq_true_eq]
        rw [if_neg (by omega)]
        exact hj'
      · rw [if_neg (by omega)]; exact hj'
    · rw [if_neg (by omega)]; exact hj'
theorem Rune_f (k : Nat) (s : ByteArray) (i : Nat) (hi : i < s.size) (hs : s.size ≤ 1099511627776) :
    cachepotref1_Rune.f (k + 3) s (i : Int) = some (((Utf8.decode s i).1 : Int), ((Utf8.decode s i).2 : Int)) := by
  obtain ⟨L, H, hL, hH, hj0, hj0'⟩ := Rune_j0 (k + 2) s (i : Int) (s.get! i).toNat
  rw [Lib.decode_at, ← refN_eq _ _ _ _ _ L H (s.get! i).toNat_lt (s.get! (i + 1)).toNat_lt (s.get! (i + 2)).toNat_lt (s.get! (i + 3)).toNat_lt hL hH]
  exact Rune_core k s i hi hs _ _ _ _ L H _ _ _ _ _ _ ⟨by rw [bt_get]; rfl⟩ ⟨by rw [bt_get]; rfl⟩ ⟨by rw [bt_get]; rfl⟩ ⟨by rw [bt_get]; rfl⟩
    (follows_f s (i + 1)) (follows_f s (i + 2)) (follows_f s (i + 3)) ⟨hj0⟩ ⟨hj0'⟩ ⟨and31 ⟨_, (s.get! i).toNat_lt⟩⟩ ⟨and15 ⟨_, (s.get! i).toNat_lt⟩⟩ ⟨and7 ⟨_, (s.get! i).toNat_lt⟩⟩
    ⟨and63 ⟨_, (s.get! (i + 1)).toNat_lt⟩⟩ ⟨and63 ⟨_, (s.get! (i + 2)).toNat_lt⟩⟩ ⟨and63 ⟨_, (s.get! (i + 3)).toNat_lt⟩⟩ (s.get! i).toNat_lt
    (Nat.mod_lt _ (by decide)) (Nat.mod_lt _ (by decide)) (Nat.mod_lt _ (by decide)) (Nat.mod_lt _ (by decide)) (Nat.mod_lt _ (by decide)) (Nat.mod_lt _ (by decide))
theorem Plain_f (r n : Nat) : cachepotref1_Plain.f (r : Int) (n : Int) = some (decide (33 ≤ r ∧ ¬ (127 ≤ r ∧ r ≤ 160) ∧ ¬ (r = 65533 ∧ n = 1))) := by
  unfold cachepotref1_Plain.f
  repeat' split
  all_goals (congr 1; rw [Bool.eq_iff_iff]; simp; omega)
/-- the reference's plain: the width, or 0 -/
theorem plain_f (k : Nat) (s : ByteArray) (i : Nat) (hi : i < s.size) (hs : s.size ≤ 1099511627776) :
    cachepotref3_plain.f (k + 3) s (i : Int) = some (if mayB s i = true then (width s i : Int) else 0) := by
  unfold cachepotref3_plain.f
  rw [Rune_f k s i hi hs]
  simp only [Option.bind_some]
  rw [Plain_f]
  simp only [Option.bind_some]
  have hw := width_pos s i
  unfold mayB
  unfold width at *
  generalize (Utf8.decode s i).1 = r at *
  generalize (Utf8.decode s i).2 = n at *
  have e : mayR r n = decide ((33 ≤ r ∧ ¬ (127 ≤ r ∧ r ≤ 160) ∧ ¬ (r = 65533 ∧ n = 1)) ∧ ¬ r = 34 ∧ ¬ r = 92) := by
    rw [Bool.eq_iff_iff]
    unfold mayR
    simp
    omega
  rw [e]
  by_cases h1 : 33 ≤ r ∧ ¬ (127 ≤ r ∧ r ≤ 160) ∧ ¬ (r = 65533 ∧ n = 1)
  · rw [decide_eq_true h1, if_pos rfl]
    by_cases h2 : r = 34
    · rw [if_pos (by omega), if_neg (by simp [h2])]
    · rw [if_neg (by omega)]
      by_cases h3 : r = 92
      · rw [if_pos (by omega), if_neg (by simp [h3])]
      · rw [if_neg (by omega), if_pos (by rw [decide_eq_true_eq]; exact ⟨h1, h2, h3⟩)]
  · rw [decide_eq_false h1, if_neg (by simp), if_neg (by rw [decide_eq_true_eq]; exact fun h => h1 h.1)]
end Go.Proofs.YtkehbnkfgbcpnaaGreatDoor.Wd
end

section
namespace Go.Proofs.YtkehbnkfgbcpnaaGreatDoor.Wd
open Go.RowKit Go.Proofs.YtkehbnkfgbcpnaaGreatDoorW.PrintWords Go.Proofs.YtkehbnkfgbcpnaaGreatDoorW.PrintLast
def hex1 (c : UInt8) : List UInt8 := [hexD (c.toNat / 16), hexD (c.toNat % 16)]
def hexB (s : ByteArray) : List UInt8 := if s.size = 0 then [45] else s.data.toList.flatMap hex1
def cachepotref3_Hex.f (a0 : ByteArray) : Option ByteArray := if a0.size ≤ 1099511627776 then some ⟨(hexB a0).toArray⟩ else none
theorem ret_strF {a b : ByteArray} (h : a = b) : Ending.returned (.string a) = .returned (.string b) := by rw [h]
abbrev DIGF : ByteArray := ⟨#[48, 49, 50, 51, 52, 53, 54, 55, 56, 57, 97, 98, 99, 100, 101, 102]⟩
theorem digF_at : ∀ h : Fin 16, DIGF[h.val]? = some (hexD h.val) := by decide
theorem index_dig (n : Nat) (hn : n < 16) (x : Int) (hx : x = n) (W : World) : (Instr.index 9 (.string DIGF) (.int .u8 x)).run Tryz.prog W = .ok (.int .u8 ((hexD n).toNat : Int)) W := by
  subst hx
  have h1 : (0 : Int) ≤ (n : Int) ∧ (n : Int) < (DIGF.size : Int) := ⟨by omega, by show (n : Int) < (16 : Nat); omega⟩
  have e := digF_at ⟨n, hn⟩
  have h2 : n < DIGF.size := hn
  rw [getElem?_pos DIGF n h2] at e
  have e3 : DIGF[n] = hexD n := Option.some.inj e
  rw [run_index_string W 9 DIGF .u8 (n : Int) Tryz.underlying9, dif_pos h1]
  have e2 : ((n : Nat) : Int).toNat = n := by omega
  simp only [e2, e3]
set_option maxHeartbeats 4000000 in
set_option maxRecDepth 100000 in
theorem cachepotref3_Hex.calls (a0 : ByteArray) (r : ByteArray) (w : World) (h : cachepotref3_Hex.f a0 = some r) :
    Calls Tryz.prog 27 #[.string a0] w fun e w' => e = .returned (.string r) ∧ Below w.heap.size w w' := by
  have hs : a0.size ≤ 1099511627776 := by
    unfold cachepotref3_Hex.f at h
    split at h
    · assumption
    · cases h
  have hr : Aside0 (⟨(hexB a0).toArray⟩ = r) := ⟨by unfold cachepotref3_Hex.f at h; rw [if_pos hs] at h; exact Option.some.inj h⟩
  clear h
  obtain ⟨i0, hi, hz0, hz1, hz2⟩ := info_parts info5
  by_cases h0 : a0.size = 0
  · have e0 : (a0.toList == ([] : List UInt8)) = true := by
      rw [Lib.toList_data, beq_iff_eq, ← List.length_eq_zero_iff, ← Lib.size_eq]; exact h0
    have e1 : a0.toList.isEmpty = true := by
      rw [Lib.toList_data, List.isEmpty_iff, ← List.length_eq_zero_iff, ← Lib.size_eq]; exact h0
    have H0 := Lib.hid h0
    clear h0
    go_enter Tryz.func27, Tryz.ntmps27
    go_wp2
    go_ret
    exact ⟨ret_strF (by rw [← hr.out, hexB, if_pos H0.out]), Below.refl _ _⟩
  · have e1 : a0.toList.isEmpty = false := by
      rw [Lib.toList_data]
      rw [Lib.size_eq] at h0
      cases hl : a0.data.toList with
      | nil => rw [hl] at h0; simp at h0
      | cons => rfl
    go_enter Tryz.func27, Tryz.ntmps27
    go_wp2
    go_loopw [3, 4] (fun v i wr => ∃ k : Nat, k ≤ a0.size ∧ i = .int .i64 k ∧ wr.ownsRow w.heap.size 5 1 v (2 * k) (Lib.byteCells ((a0.data.toList.take k).flatMap hex1)) ∧ Below w.heap.size w wr) (fun _ i _ => a0.size - (intOf i).toNat)
    case atStart => exact ⟨0, Nat.zero_le _, rfl, ⟨by simp [Lib.byteCells], .inl ⟨rfl, rfl⟩⟩, Below.refl _ _⟩
    case round =>
      obtain ⟨k, hk, rfl, hown, hbw⟩ := hrel
      by_cases hlt : k < a0.size
      · have hc255 := a0[k].toNat_lt
        have ix1 : ∀ W : World, (Instr.index 9 (.string DIGF) (.int .u8 (((a0[k].toNat : Nat) : Int) / 16))).run Tryz.prog W = .ok (.int .u8 ((hexD (a0[k].toNat / 16)).toNat : Int)) W := fun W => index_dig _ (by omega) _ (by omega) W
        have ix2 : ∀ W : World, (Instr.index 9 (.string DIGF) (.int .u8 (((a0[k].toNat : Nat) : Int) % 16))).run Tryz.prog W = .ok (.int .u8 ((hexD (a0[k].toNat % 16)).toNat : Int)) W := fun W => index_dig _ (by omega) _ (by omega) W
        have eq1 : IntKind.u8.wrap (((a0[k].toNat : Nat) : Int).tdiv 16) = ((a0[k].toNat : Nat) : Int) / 16 := IntWalk.u8_quo _ _ (by omega)
        have eq3 : IntKind.u8.wrap (((a0[k].toNat : Nat) : Int) / 16) = ((a0[k].toNat : Nat) : Int) / 16 := IntWalk.u8_in _ (by omega)
        have eq2 : ((a0[k].toNat : Nat) : Int).tmod 16 = ((a0[k].toNat : Nat) : Int) % 16 := IntWalk.rem_in _ _ (by omega)
        have hbe := hbw.size
        have hstep : Lib.byteCells ((a0.data.toList.take k).flatMap hex1) ++ [.int .u8 ((hexD (a0[k].toNat / 16)).toNat : Int), .int .u8 ((hexD (a0[k].toNat % 16)).toNat : Int)] = Lib.byteCells ((a0.data.toList.take (k + 1)).flatMap hex1) := by
          rw [List.take_succ_eq_append_getElem (by rw [← Lib.size_eq]; exact hlt), List.flatMap_append, Lib.byteCells_append]
          congr 1
        have Hstep := Lib.hid hstep
        clear hstep
        go_wp2_with fail
        go_region_held3 (fun w' => True) (exact trivial)
          ((refine step_append_lies _ (by rfl) _ _ _ (by rfl) w.heap.size 5 i0 _ 1 1 Tryz.underlying55 hi hz0 hz1 hz2 rfl (by omega) u3 (2 * k) _ (by rfl) ((hown.alloc _).drew)
              ⟨wr.heap.size, 0, none⟩ 2 2 [.int .u8 ((hexD (a0[k].toNat / 16)).toNat : Int), .int .u8 ((hexD (a0[k].toNat % 16)).toNat : Int)] (by rfl) (by rfl) (World.news_of_block (cs := #[.int .u8 ((hexD (a0[k].toNat / 16)).toNat : Int), .int .u8 ((hexD (a0[k].toNat % 16)).toNat : Int)]) (t := 5) (fr := (0, 0)) (heap_alloc_new wr _)) (by simp [Value.oneCell'])
              (by omega) (by unfold maxLen; omega) (by omega) (by simp; omega) (wr.heap.size + 1) (by simp) ?_; intro gg cap w1 hown1 hgrow hat hlt1))
        all_goals (
          rw [Hstep.out] at hown1
          have hb1 : Below w.heap.size w w1 := (((hbw.alloc hbe _).drew).grown hgrow (by simp; omega) (fun k hk => (hown.lt k hk).1))
          go_wp2
          go_roundw
          case rel => exact ⟨k + 1, hlt, by simp, hown1, hb1⟩
          case measure => simp [intOf]; omega)
      · have hke : k = a0.size := by omega
        subst hke
        have hnum : Lib.byteCells ((a0.data.toList.take a0.size).flatMap hex1) = nums .u8 (((a0.data.toList.take a0.size).flatMap hex1).map fun b => (b.toNat : Int)) := by
          simp [Lib.byteCells, nums]
        have hstr : strOfNums (((a0.data.toList.take a0.size).flatMap hex1).map fun b => (b.toNat : Int)) = ⟨(hexB a0).toArray⟩ := by
          unfold strOfNums hexB
          rw [if_neg h0, List.take_of_length_le (by rw [← Lib.size_eq]; exact Nat.le_refl _), List.map_map]
          congr 2
          rw [List.map_congr_left (g := id) (fun b _ => by simp), List.map_id]
        have hcv : (convert 55 9 u3).run Tryz.prog wr = .ok (.string ⟨(hexB a0).toArray⟩) wr := by
          rw [hnum] at hown
          rw [own_string Tryz.underlying55 Tryz.underlying5 Tryz.underlying9 hown, hstr]
        clear hnum hstr hown
        go_wp2
        go_ret
        exact ⟨ret_strF hr.out, hbw⟩
end Go.Proofs.YtkehbnkfgbcpnaaGreatDoor.Wd
end

section
namespace Go.Proofs.YtkehbnkfgbcpnaaGreatDoor.Wd
open Go.RowKit Go.Proofs.YtkehbnkfgbcpnaaGreatDoorW.PrintWords Go.Proofs.YtkehbnkfgbcpnaaGreatDoorW.PrintLast
def cachepotref3_Quote.f (a0 : ByteArray) : Option ByteArray := if a0.size ≤ 1099511627776 then some ⟨(quoteB a0).toArray⟩ else none
theorem mayB_bytes (s : ByteArray) (i : Nat) (hi : i < s.size) (h : mayB s i = true) : ¬ byteAt s i = 34 ∧ ¬ byteAt s i = 92 ∧ ¬ byteAt s i = 32 := by
  have key : ∀ c : UInt8, c.toNat < 128 → mayR c.toNat 1 = false → ¬ byteAt s i = c := by
    intro c h1 h2 h3
    have e : byteAt s i = s[i] := get_lt s i hi
    rw [h3] at e
    have hd := decode_ascii s i hi (by rw [← e]; exact h1)
    unfold mayB at h
    rw [hd, ← e] at h
    rw [h] at h2
    cases h2
  exact ⟨key 34 (by decide) (by decide), key 92 (by decide) (by decide), key 32 (by decide) (by decide)⟩
theorem width_ascii (s : ByteArray) (i : Nat) (hi : i < s.size) (c : UInt8) (h : byteAt s i = c) (hc : c.toNat < 128) : width s i = 1 := by
  have e : byteAt s i = s[i] := get_lt s i hi
  unfold width
  rw [decode_ascii s i hi (by rw [← e, h]; exact hc)]
theorem app_data (a b : ByteArray) : (a ++ b).data.toList = a.data.toList ++ b.data.toList := by rw [ByteArray.data_append, Array.toList_append]
theorem app_size (a b : ByteArray) : (a ++ b).size = a.size + b.size := by rw [Lib.size_eq, Lib.size_eq, Lib.size_eq, app_data, List.length_append]
theorem byte_ex (s : ByteArray) (i : Nat) (hi : i < s.size) : bytesAt s i 1 = [byteAt s i] := by
  unfold bytesAt byteAt
  rw [List.drop_eq_getElem_cons (by rw [← Lib.size_eq]; exact hi), get_lt s i hi]
  rfl
theorem u8_toNat (c : UInt8) (n : Nat) (hn : n < 256) : ((c.toNat : Int) == (n : Int)) = decide (c = UInt8.ofNat n) := by
  rw [Bool.eq_iff_iff, beq_iff_eq, decide_eq_true_eq]
  constructor
  · intro h
    apply UInt8.toNat_inj.1
    simp; omega
  · intro h
    rw [h]; simp; omega
theorem bytesAt_take (s : ByteArray) (pos n k : Nat) (hk : pos ≤ k) (hj : k < pos + n) (hn : pos + n ≤ s.size) : (bytesAt s pos n).take (k + 1 - pos) = (bytesAt s pos n).take (k - pos) ++ [byteAt s k] := by
  have e : k + 1 - pos = (k - pos) + 1 := by omega
  have hl : k - pos < (bytesAt s pos n).length := by
    unfold bytesAt
    rw [List.length_take, List.length_drop, ← Lib.size_eq]; omega
  rw [e, List.take_succ_eq_append_getElem hl]
  have h1 : (bytesAt s pos n)[k - pos]? = some (byteAt s k) := by
    have e2 : pos + (k - pos) = k := by omega
    unfold bytesAt byteAt
    rw [List.getElem?_take_of_lt (by omega), List.getElem?_drop, e2, get_lt s k (by omega), List.getElem?_eq_getElem (by rw [← Lib.size_eq]; omega)]
    rfl
  rw [List.getElem?_eq_getElem hl] at h1
  rw [Option.some.inj h1]
theorem bytesAt_all (s : ByteArray) (pos n : Nat) : (bytesAt s pos n).take n = bytesAt s pos n := List.take_of_length_le (List.length_take_le _ _)
theorem hexQs_len (l : List UInt8) : (l.flatMap hexQ).length = 3 * l.length := by
  induction l with
  | nil => rfl
  | cons c l ih => rw [List.flatMap_cons, List.length_append, ih]; simp [hexQ]; omega
theorem quoteFrom_endI (s : ByteArray) (fuel pos : Nat) (h : ¬ pos < s.size) : quoteFrom s fuel pos = [] := by
  cases fuel with
  | zero => rfl
  | succ f => rw [quoteFrom, if_neg h]
theorem plainFrom_endI (s : ByteArray) (fuel pos : Nat) (h : ¬ pos < s.size) : plainFrom s fuel pos = true := by
  cases fuel with
  | zero => rfl
  | succ f => rw [plainFrom, if_neg h]
theorem ba_extI {a b : ByteArray} (h : a.data.toList = b.data.toList) : a = b := by
  obtain ⟨a⟩ := a
  obtain ⟨b⟩ := b
  exact congrArg ByteArray.mk (Array.toList_inj.1 h)
/-- the bytes of a rune that is escaped, one place -/
theorem hex_of (s : ByteArray) (k : Nat) (hk : k < s.size) : hexB (s.extract k (k + 1)) = hex1 (byteAt s k) := by
  have h1 := extract_bytes s k 1
  have hz : ¬ (s.extract k (k + 1)).size = 0 := by rw [Lib.size_eq, h1, byte_ex s k hk]; simp
  rw [hexB, if_neg hz, h1, byte_ex s k hk]
  simp
theorem hex_at (c : UInt8) (o : ByteArray) : (o ++ ((⟨#[92]⟩ : ByteArray) ++ (⟨(hex1 c).toArray⟩ : ByteArray))).data.toList = o.data.toList ++ hexQ c := by
  rw [app_data, app_data]
  rfl
set_option maxHeartbeats 4000000 in
set_option maxRecDepth 100000 in
theorem cachepotref3_Quote.calls (a0 : ByteArray) (r : ByteArray) (w : World) (h : cachepotref3_Quote.f a0 = some r) :
    Calls Tryz.prog 14 #[.string a0] w fun e w' => e = .returned (.string r) ∧ Below w.heap.size w w' := by
  have hs : a0.size ≤ 1099511627776 := by
    unfold cachepotref3_Quote.f at h
    split at h
    · assumption
    · cases h
  have hr : Aside0 (⟨(quoteB a0).toArray⟩ = r) := ⟨by unfold cachepotref3_Quote.f at h; rw [if_pos hs] at h; exact Option.some.inj h⟩
  clear h
  go_enter Tryz.func14, Tryz.ntmps14
  go_wp2_with fail
  go_loopw [3, 4, 5] (fun v3 v4 v5 wr => ∃ (av : Bool) (o : ByteArray) (pos fuel : Nat), v3 = .bool av ∧ v4 = .string o ∧ v5 = .int .i64 (pos : Int) ∧ Below w.heap.size w wr ∧ Aside0 (o.data.toList ++ quoteFrom a0 fuel pos = 34 :: quoteFrom a0 a0.size 0) ∧ Aside0 ((av && plainFrom a0 fuel pos) = plainB a0) ∧ a0.size ≤ pos + fuel ∧ o.size ≤ 1 + 3 * pos ∧ pos ≤ a0.size) (fun _ _ v5 _ => a0.size - (intOf v5).toNat)
  case atStart => 
    refine ⟨!a0.toList.isEmpty, ⟨#[34]⟩, 0, a0.size, rfl, rfl, rfl, Below.refl _ _, ⟨rfl⟩, ⟨?_⟩, by omega, by decide, by omega⟩
    rw [plainB, Bool.and_comm]
    congr 1
    rw [Lib.toList_data, Bool.eq_iff_iff, decide_eq_true_eq, Lib.size_eq]
    cases a0.data.toList <;> simp
  case round =>
    obtain ⟨av, o, pos, fuel, rfl, rfl, rfl, hbw, hq, hpl, hfu, hol, hpz⟩ := hrel
    by_cases hp : pos < a0.size
    · have hpf := plain_f 0 a0 pos hp hs
      have hwd := width_pos a0 pos
      have hwl := width_le a0 pos hp
      obtain ⟨f, rfl⟩ : ∃ f, fuel = f + 1 := ⟨fuel - 1, by omega⟩
      have q1 := hq.out
      have p1 := hpl.out
      rw [quoteFrom, if_pos hp, ← List.append_assoc] at q1
      rw [plainFrom, if_pos hp] at p1
      clear hq hpl
      have hba : byteAt a0 pos = a0[pos] := get_lt a0 pos hp
      cases hm : mayB a0 pos
      · rw [hm, if_neg (by decide)] at hpf
        have hpA := Aside0.mk hpf
        clear hpf
        have p2 : Aside0 ((false && plainFrom a0 f (pos + width a0 pos)) = plainB a0) := ⟨by rw [hm] at p1; cases av <;> exact p1⟩
        clear p1
        have hbe := extract_bytes a0 pos 1
        have hbz : (a0.extract pos (pos + 1)).size = 1 := by simp; omega
        have hsl : ∀ W : World, (Instr.slice 9 (.string a0) (some (.int .i64 (pos : Int))) (some (.int .i64 ((pos : Int) + 1))) none).run Tryz.prog W = .ok (.string (a0.extract pos (pos + 1))) W := slice_at a0 pos 1 (by omega)
        have hcat : ¬ 9223372036854775807 < o.size + (1 + (a0.extract pos (pos + 1)).size) := by omega
        have hcat1 : ¬ 9223372036854775807 < 1 + (a0.extract pos (pos + 1)).size := by omega
        have hcat2 : ¬ 9223372036854775807 < o.size + 1 := by omega
        by_cases h2 : byteAt a0 pos = 34 ∨ byteAt a0 pos = 92
        · have hw1 : width a0 pos = 1 := by
            rcases h2 with h | h
            · exact width_ascii a0 pos hp 34 h (by decide)
            · exact width_ascii a0 pos hp 92 h (by decide)
          have hq1 : quote1 a0 pos = [92, byteAt a0 pos] := by
            rcases h2 with h | h <;> (rw [quote1, hm, h]; rfl)
          rw [hw1] at q1 p2
          have q2 : Aside0 ((o ++ ((⟨#[92]⟩ : ByteArray) ++ a0.extract pos (pos + 1))).data.toList ++ quoteFrom a0 f (pos + 1) = 34 :: quoteFrom a0 a0.size 0) := ⟨by
            rw [app_data, app_data, hbe, byte_ex a0 pos hp, ← q1, hq1]; rfl⟩
          have hoz : (o ++ ((⟨#[92]⟩ : ByteArray) ++ a0.extract pos (pos + 1))).size ≤ 1 + 3 * (pos + 1) := by
            have e : (⟨#[92]⟩ : ByteArray).size = 1 := rfl
            rw [app_size, app_size, e]; omega
          clear q1 hq1 hw1 hbe hbz hm
          rcases h2 with h | h
          · have t34 : ((a0[pos].toNat : Int) == 34) = true := by rw [← hba]; exact (u8_toNat _ 34 (by decide)).trans (decide_eq_true h)
            clear h hba
            go_wp2_with fail
            refine (cachepotref3_plain.calls 3 a0 (pos : Int) 0 _ hpA.out).mono ?_
            rintro e w1 ⟨rfl, ⟨nd, rfl⟩⟩
            cases av
            all_goals (
              go_wp2
              go_roundw
              case rel => exact ⟨_, _, pos + 1, f, rfl, rfl, by simp, pw_below_drewN hbw nd, q2, p2, by omega, hoz, by omega⟩
              case measure => simp [intOf]; omega)
          · have t34 : ((a0[pos].toNat : Int) == 34) = false := by rw [← hba, h]; rfl
            have t92 : ((a0[pos].toNat : Int) == 92) = true := by rw [← hba]; exact (u8_toNat _ 92 (by decide)).trans (decide_eq_true h)
            clear h hba
            go_wp2_with fail
            refine (cachepotref3_plain.calls 3 a0 (pos : Int) 0 _ hpA.out).mono ?_
            rintro e w1 ⟨rfl, ⟨nd, rfl⟩⟩
            cases av
            all_goals (
              go_wp2
              go_roundw
              case rel => exact ⟨_, _, pos + 1, f, rfl, rfl, by simp, pw_below_drewN hbw nd, q2, p2, by omega, hoz, by omega⟩
              case measure => simp [intOf]; omega)
        · have n34 : ¬ byteAt a0 pos = 34 := fun h => h2 (.inl h)
          have n92 : ¬ byteAt a0 pos = 92 := fun h => h2 (.inr h)
          have t34 : ((a0[pos].toNat : Int) == 34) = false := by rw [← hba]; exact (u8_toNat _ 34 (by decide)).trans (decide_eq_false n34)
          have t92 : ((a0[pos].toNat : Int) == 92) = false := by rw [← hba]; exact (u8_toNat _ 92 (by decide)).trans (decide_eq_false n92)
          clear h2
          by_cases h32 : byteAt a0 pos = 32
          · have hw1 : width a0 pos = 1 := width_ascii a0 pos hp 32 h32 (by decide)
            have hq1 : quote1 a0 pos = [32] := by
              rw [quote1, hm, h32, if_pos (by decide), hw1, byte_ex a0 pos hp, h32]
            rw [hw1] at q1 p2
            have q2 : Aside0 ((o ++ (⟨#[32]⟩ : ByteArray)).data.toList ++ quoteFrom a0 f (pos + 1) = 34 :: quoteFrom a0 a0.size 0) := ⟨by
              rw [app_data, ← q1, hq1]⟩
            have hoz : (o ++ (⟨#[32]⟩ : ByteArray)).size ≤ 1 + 3 * (pos + 1) := by
              have e : (⟨#[32]⟩ : ByteArray).size = 1 := rfl
              rw [app_size, e]; omega
            have t32 : ((a0[pos].toNat : Int) == 32) = true := by rw [← hba]; exact (u8_toNat _ 32 (by decide)).trans (decide_eq_true h32)
            clear q1 hq1 hw1 hbe hbz hm h32 hba n34 n92 hsl
            go_wp2_with fail
            refine (cachepotref3_plain.calls 3 a0 (pos : Int) 0 _ hpA.out).mono ?_
            rintro e w1 ⟨rfl, ⟨nd, rfl⟩⟩
            cases av
            all_goals (
              go_wp2
              go_roundw
              case rel => exact ⟨_, _, pos + 1, f, rfl, rfl, by simp, pw_below_drewN hbw nd, q2, p2, by omega, hoz, by omega⟩
              case measure => simp [intOf]; omega)
          · have t32 : ((a0[pos].toNat : Int) == 32) = false := by rw [← hba]; exact (u8_toNat _ 32 (by decide)).trans (decide_eq_false h32)
            have hq1 : quote1 a0 pos = (bytesAt a0 pos (width a0 pos)).flatMap hexQ := by
              rw [quote1, hm, if_neg (by simpa using h32), if_neg (by simp [n34, n92])]
            rw [hq1] at q1
            have q2 := Aside0.mk q1
            have hR := Aside0.mk (Rune_f 0 a0 pos hp hs)
            generalize hrr : ((Utf8.decode a0 pos).1 : Int) = rr at hR
            have hwe : ((Utf8.decode a0 pos).2 : Int) = (width a0 pos : Int) := rfl
            rw [hwe] at hR
            clear hwe hrr q1 hq1 hm hba n34 n92 h32 hsl hcat hcat1 hcat2 hbe hbz
            generalize hwn : width a0 pos = n at *
            clear hwn
            go_wp2_with fail
            refine (cachepotref3_plain.calls 3 a0 (pos : Int) 0 _ hpA.out).mono ?_
            rintro e w1 ⟨rfl, ⟨nd, rfl⟩⟩
            have hb1 := pw_below_drewN hbw nd
            cases av
            all_goals (
              go_wp2_with fail
              refine (cachepotref1_Rune.calls 3 a0 (pos : Int) rr (n : Int) _ hR.out).mono ?_
              rintro e w2 ⟨rfl, ⟨nd2, rfl⟩⟩
              have hb2 : Below w.heap.size w (wr.drewN (nd + nd2)) := pw_below_drewN hbw (nd + nd2)
              go_wp2_with fail
              go_loopw [4, 9] (fun v4 v9 wi => ∃ (o2 : ByteArray) (k : Nat), v4 = .string o2 ∧ v9 = .int .i64 (k : Int) ∧ pos ≤ k ∧ k ≤ pos + n ∧ Below w.heap.size w wi ∧ Aside0 (o2.data.toList = o.data.toList ++ ((bytesAt a0 pos n).take (k - pos)).flatMap hexQ)) (fun _ v9 _ => pos + n - (intOf v9).toNat)
              case atStart => exact ⟨o, pos, rfl, rfl, by omega, by omega, hb2, ⟨by simp⟩⟩
              case round =>
                obtain ⟨o2, k, rfl, rfl, hk1, hk2, hbi, hacc⟩ := hrel
                have ho2 : o2.size ≤ 1 + 3 * k := by
                  rw [Lib.size_eq, hacc.out, List.length_append, hexQs_len, ← Lib.size_eq]
                  have : ((bytesAt a0 pos n).take (k - pos)).length ≤ k - pos := List.length_take_le _ _
                  omega
                by_cases hlt : k < pos + n
                · have hka : k < a0.size := by omega
                  have hsl : ∀ W : World, (Instr.slice 9 (.string a0) (some (.int .i64 (k : Int))) (some (.int .i64 ((k : Int) + 1))) none).run Tryz.prog W = .ok (.string (a0.extract k (k + 1))) W := slice_at a0 k 1 (by omega)
                  have hHx : Aside0 (cachepotref3_Hex.f (a0.extract k (k + 1)) = some ⟨(hex1 (byteAt a0 k)).toArray⟩) := ⟨by
                    rw [cachepotref3_Hex.f, if_pos (by simp; omega), hex_of a0 k hka]⟩
                  have hzx : (⟨(hex1 (byteAt a0 k)).toArray⟩ : ByteArray).size = 2 := rfl
                  have hx3 : Aside0 ((o2 ++ ((⟨#[92]⟩ : ByteArray) ++ (⟨(hex1 (byteAt a0 k)).toArray⟩ : ByteArray))).data.toList = o.data.toList ++ ((bytesAt a0 pos n).take (k + 1 - pos)).flatMap hexQ) := ⟨by
                    rw [hex_at, hacc.out, bytesAt_take a0 pos n k hk1 hlt hwl, List.flatMap_append, List.append_assoc]
                    simp⟩
                  generalize hxx : (⟨(hex1 (byteAt a0 k)).toArray⟩ : ByteArray) = hx at hHx hx3 hzx
                  clear hxx hacc
                  have hc1 : ¬ 9223372036854775807 < o2.size + (1 + hx.size) := by omega
                  have hc2 : ¬ 9223372036854775807 < 1 + hx.size := by omega
                  clear hzx ho2
                  go_wp2_with fail
                  refine (cachepotref3_Hex.calls (a0.extract k (k + 1)) hx _ hHx.out).mono ?_
                  rintro e w3 ⟨rfl, hb3⟩
                  have hb4 : Below w.heap.size w w3 := hbi.trans (hb3.mono hbi.size)
                  go_wp2
                  go_roundw
                  case rel => exact ⟨_, k + 1, rfl, by simp, by omega, by omega, hb4, hx3⟩
                  case measure => simp [intOf]; omega
                · have hkk : k = pos + n := by omega
                  have q3 : Aside0 (o2.data.toList ++ quoteFrom a0 f (pos + n) = 34 :: quoteFrom a0 a0.size 0) := ⟨by
                    rw [hacc.out, hkk, show pos + n - pos = n by omega, bytesAt_all]; exact q2.out⟩
                  have ho3 : o2.size ≤ 1 + 3 * (pos + n) := by omega
                  clear hacc q2
                  go_wp2
                  go_roundw
                  case rel => exact ⟨_, o2, pos + n, f, rfl, rfl, by simp, hbi, q3, p2, by omega, ho3, by omega⟩
                  case measure => simp [intOf]; omega)
      · rw [hm, if_pos rfl] at hpf
        have hpA := Aside0.mk hpf
        clear hpf
        obtain ⟨n34, n92, n32⟩ := mayB_bytes a0 pos hp hm
        have t34 : ((a0[pos].toNat : Int) == 34) = false := by rw [← hba]; exact (u8_toNat _ 34 (by decide)).trans (decide_eq_false n34)
        have t92 : ((a0[pos].toNat : Int) == 92) = false := by rw [← hba]; exact (u8_toNat _ 92 (by decide)).trans (decide_eq_false n92)
        have t32 : ((a0[pos].toNat : Int) == 32) = false := by rw [← hba]; exact (u8_toNat _ 32 (by decide)).trans (decide_eq_false n32)
        have hq1 : quote1 a0 pos = bytesAt a0 pos (width a0 pos) := by rw [quote1, hm]; rfl
        have hsl := slice_at a0 pos (width a0 pos) hwl
        have hbe := extract_bytes a0 pos (width a0 pos)
        have hbz : (a0.extract pos (pos + width a0 pos)).size = width a0 pos := by simp; omega
        rw [hq1, ← hbe, ← app_data] at q1
        have q2 := Aside0.mk q1
        rw [hm, Bool.true_and] at p1
        have p2 := Aside0.mk p1
        have hcat : ¬ 9223372036854775807 < o.size + (a0.extract pos (pos + width a0 pos)).size := by omega
        have hoz : (o ++ a0.extract pos (pos + width a0 pos)).size ≤ 1 + 3 * (pos + width a0 pos) := by rw [app_size]; omega
        clear q1 p1 hba n34 n92 n32 hq1 hm hbe hbz
        generalize width a0 pos = n at *
        go_wp2_with fail
        refine (cachepotref3_plain.calls 3 a0 (pos : Int) (n : Int) _ hpA.out).mono ?_
        rintro e w1 ⟨rfl, ⟨nd, rfl⟩⟩
        cases av
        all_goals (
          go_wp2
          go_roundw
          case rel => exact ⟨_, _, pos + n, f, rfl, rfl, by simp, pw_below_drewN hbw nd, q2, by first | exact p2 | (rw [decide_eq_true (show 0 < n by omega)]; exact p2), by omega, hoz, hwl⟩
          case measure => simp [intOf]; omega)
    · have q1 := hq.out
      have p1 := hpl.out
      rw [quoteFrom_endI _ _ _ hp, List.append_nil] at q1
      rw [plainFrom_endI _ _ _ hp, Bool.and_true] at p1
      clear hq hpl
      have hcc : ¬ 9223372036854775807 < o.size + 1 := by omega
      cases av
      · have q2 : Aside0 (o ++ (⟨#[34]⟩ : ByteArray) = r) := ⟨by
          rw [← hr.out, quoteB, ← p1, if_neg (by decide)]
          apply ba_extI
          rw [app_data, q1]
          rfl⟩
        clear q1 p1
        go_wp2
        go_ret
        exact ⟨ret_strF q2.out, hbw⟩
      · have q2 : Aside0 (a0 = r) := ⟨by
          rw [← hr.out, quoteB, ← p1, if_pos rfl]⟩
        clear q1 p1
        go_wp2
        go_ret
        exact ⟨ret_strF q2.out, hbw⟩
end Go.Proofs.YtkehbnkfgbcpnaaGreatDoor.Wd
end
