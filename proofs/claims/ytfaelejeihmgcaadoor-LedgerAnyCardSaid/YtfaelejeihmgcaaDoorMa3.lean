/-
  Texts of mine, and texts that print.sh and pp.py wrote, merged and cut to what is used: Lg9, PureR, HandO, HandP, Atm, HandM, HandR, Lg13, Lg14, Lg15, HandT, PureT, PureN, HandQ, PureS, PureW, HandWh, HandWr, HandWw
-/
import Derived.Test.YtfaelejeihmgcaaDoorProg
import Derived.Below
import Derived.Lib.ItoaMem
import Derived.Lib.LaidTab
import Derived.Deep.Draws
import Derived.Deep.AppendLies
import Derived.Maps.AppendAt
import Derived.OwnWalk
import Derived.Laws.BytesArg
import Derived.Laws.MakeOwn
import Derived.Laws.OwnMore
import Derived.Deep.OwnRows
import Derived.Tactics
import Derived.Lib.ConvBytes
import Derived.Laws.Slices
import Derived.WalkKit
import Derived.KernelRfl
import Derived.RowKit3
import Derived.Deep.LoopGhost
import Derived.Deep.QuietTactic
import Derived.BigQuiet
import Derived.WideLaws
import Derived.Deep.DeepCutAuto
import Derived.Deep.CutBlock
import Derived.Deep.RegionHeld3
import Derived.Laws.Rows
import Derived.Lib.AppendStr
import Derived.ArgAppend
import Derived.Laws.IdiomCopy
import Derived.OrdersHeld
import Derived.Laws.BitsLemmas
import Derived.RowKit
import Derived.Laws.StructEq
import Derived.Shelf.Strconv.Itoa0
import Derived.Shelf.Strconv.Itoa1
import Derived.Shelf.LaysM
import Derived.Shelf.Strconv.Itoa2
import Derived.Lib.Strings
import Derived.Lib.Slices
import Derived.Lib.Walk
import Derived.Lib.Builder
import Derived.Lib.UnsafeStr
import Derived.Shelf.Strings.Builder1
import Derived.Shelf.Strings.OnBuilder
import Derived.Shelf.Unicode.DecodeSlow
import Derived.Shelf.Unicode.DecodeAny
import Derived.Laws.Externs
import Derived.Lib.DecodeNEq
import Derived.StillTailTactics
import Derived.Outline
import Derived.Lib.Hide
import Derived.IntWalk
import Derived.WalkSpells
import Derived.Tactics2
import Derived.Laws.Pointers
import Derived.Lib.AppendIntMem
import Derived.BigCall
import Derived.BigGuard
import Derived.FnData
import Derived.Carry
import Derived.Deep.MidRow
import Derived.Maps.OwnSet
import Derived.StillTactics
import Derived.Test.YtfaelejeihmgcaaDoorRows
import Derived.ChangeArms
import Derived.DataReads
import Derived.DataElems
import Derived.Test.YtfaelejeihmgcaaDoorCards
import Derived.Test.YtfaelejeihmgcaaDoorTie
import Derived.Lib.LaidU8
import Derived.LaidMore
import Derived.Lay
import Derived.ProofKit
import Derived.OpenShut
import Derived.SevenTiedAt
import Derived.Stop.Joined
import Derived.Deep.DeepHandedRow
import Derived.SliceStrings
import Derived.Test.YtfaelejeihmgcaaDoorMa0
import Derived.Test.YtfaelejeihmgcaaDoorMa1
import Derived.Test.YtfaelejeihmgcaaDoorMa2

section
namespace Go.Proofs.YtfaelejeihmgcaaDoor.Lgx
open Go.RowKit Go.Proofs.YtfaelejeihmgcaaDoorW.PrintWords Go.Proofs.YtfaelejeihmgcaaDoorW.PrintLast Go.Proofs.YtfaelejeihmgcaaDoorW.PrintMore
attribute [local go_sem] max2_int min2_int max_two min_two max_three min_three max_four min_four   -- for this text's walks alone
set_option linter.unusedVariables false
set_option linter.unusedSimpArgs false
attribute [local go_sem high] eqA98
def cachepotref1_KeyCommon.l0 : Nat → List Int → List Int → Int → Option (Int)
  | 0, _, _, _ => none
  | k + 1, x5, x7, x9 => if x9 < (x5.length : Int) then (if x9 < (x7.length : Int) then (if 0 ≤ x9 then (if (rd x5 x9) = (rd x7 x9) then (cachepotref1_KeyCommon.l0 k x5 x7 (wrap64 (x9 + 1))) else (some x9)) else (none)) else (some x9)) else (some x9)
def cachepotref1_KeyCommon.f (k : Nat) (a0 : ByteArray) (a1 : ByteArray) : Option (Int) := (cachepotref1_Runes.f k a0).bind fun bt232 => ((cachepotref1_Runes.f k a1).bind fun bt238 => (cachepotref1_KeyCommon.l0 k bt232.1 bt238.1 0))
set_option maxHeartbeats 8000000 in
set_option maxRecDepth 100000 in
theorem cachepotref1_KeyCommon.calls (k : Nat) (a0 : ByteArray) (a1 : ByteArray) (r : Int) (w : World) (h : cachepotref1_KeyCommon.f k a0 a1 = some r) :
    Calls Tryd.prog 132 #[.string a0, .string a1] w fun e w' => e = .returned (.int .i64 r) ∧ Below w.heap.size w w' := by
  have HB := Aside0.mk (Below.refl w.heap.size w)
  have H : ((cachepotref1_Runes.f k a0).bind fun bt232 => ((cachepotref1_Runes.f k a1).bind fun bt238 => (cachepotref1_KeyCommon.l0 k bt232.1 bt238.1 0))) = some r := h
  clear h
  replace H := Option.bind_eq_some_iff.mp H
  obtain ⟨⟨t232, t233⟩, A30, H⟩ := H
  replace H : ((cachepotref1_Runes.f k a1).bind fun bt238 => (cachepotref1_KeyCommon.l0 k t232 bt238.1 0)) = some r := H
  have A3 := Aside0.mk A30
  clear A30
  replace H := Option.bind_eq_some_iff.mp H
  obtain ⟨⟨t238, t239⟩, A40, H⟩ := H
  replace H : (cachepotref1_KeyCommon.l0 k t232 t238 0) = some r := H
  have A4 := Aside0.mk A40
  clear A40
  have H' := Aside0.mk H
  clear H
  go_enter Tryd.func132, Tryd.ntmps132
  go_wp2_with (first | (go_at_call 131; (with_reducible refine (cachepotref1_Runes.calls k a0 t232 t233 _ A3.out).mono ?_); rintro e w5 ⟨v234, v236, rfl, ho0, ho1, hb⟩; have n0_ := Aside0.mk (Kd.R_lower ho0 (below_size (by repeat (first | (with_reducible first | exact HB.out | apply below_alloc | apply pw_below_drewN | apply below_drew1) | exact HB.out)))); have n1_ := Aside0.mk (Kd.R_lower ho1 (below_size (by repeat (first | (with_reducible first | exact HB.out | apply below_alloc | apply pw_below_drewN | apply below_drew1) | exact HB.out)))); have n2_ := Aside0.mk (below_step (by repeat (first | (with_reducible first | exact HB.out | apply below_alloc | apply pw_below_drewN | apply below_drew1) | exact HB.out)) hb); clear HB; have HO235 := n0_; have HO237 := n1_; have HB := n2_; clear n0_ n1_ n2_; (try clear hb); (try clear hb2); (try clear hk); (try clear hi); (try clear ho0); (try clear ho1)) | (go_at_call 131; (with_reducible refine (cachepotref1_Runes.calls k a1 t238 t239 _ A4.out).mono ?_); rintro e w6 ⟨v240, v242, rfl, ho0, ho1, hb⟩; have n0_ := Aside0.mk (Kd.R_mono (Kd.R_told (Kd.R_told (Kd.R_old (by (with_reducible repeat (first | apply Kd.R_alloc | apply Kd.R_drewN | apply Kd.R_drew)); exact HO235.out) hb) (Kd.R_base ho0)) (Kd.R_base ho1)) (fun _ h_ => h_.1)); have n1_ := Aside0.mk (Kd.R_mono (Kd.R_told (Kd.R_told (Kd.R_old (by (with_reducible repeat (first | apply Kd.R_alloc | apply Kd.R_drewN | apply Kd.R_drew)); exact HO237.out) hb) (Kd.R_base ho0)) (Kd.R_base ho1)) (fun _ h_ => h_.1)); have n2_ := Aside0.mk (Kd.R_lower (Kd.R_new' (Kd.R_new' ho0 (Kd.R_lt (by (with_reducible repeat (first | apply Kd.R_alloc | apply Kd.R_drewN | apply Kd.R_drew)); exact HO235.out))) (Kd.R_lt (by (with_reducible repeat (first | apply Kd.R_alloc | apply Kd.R_drewN | apply Kd.R_drew)); exact HO237.out))) (below_size (by repeat (first | (with_reducible first | exact HB.out | apply below_alloc | apply pw_below_drewN | apply below_drew1) | exact HB.out)))); have n3_ := Aside0.mk (Kd.R_lower (Kd.R_new' (Kd.R_new' ho1 (Kd.R_lt (by (with_reducible repeat (first | apply Kd.R_alloc | apply Kd.R_drewN | apply Kd.R_drew)); exact HO235.out))) (Kd.R_lt (by (with_reducible repeat (first | apply Kd.R_alloc | apply Kd.R_drewN | apply Kd.R_drew)); exact HO237.out))) (below_size (by repeat (first | (with_reducible first | exact HB.out | apply below_alloc | apply pw_below_drewN | apply below_drew1) | exact HB.out)))); have n4_ := Aside0.mk (below_step (by repeat (first | (with_reducible first | exact HB.out | apply below_alloc | apply pw_below_drewN | apply below_drew1) | exact HB.out)) hb); clear HO235; clear HO237; clear HB; have HO235 := n0_; have HO237 := n1_; have HO241 := n2_; have HO243 := n3_; have HB := n4_; clear n0_ n1_ n2_ n3_ n4_; (try clear hb); (try clear hb2); (try clear hk); (try clear hi); (try clear ho0); (try clear ho1)))
  repeat (go_quiet (first | (go_at_call 131; (with_reducible refine (cachepotref1_Runes.calls k a0 t232 t233 _ A3.out).mono ?_); rintro e w5 ⟨v234, v236, rfl, ho0, ho1, hb⟩; have n0_ := Aside0.mk (Kd.R_lower ho0 (below_size (by repeat (first | (with_reducible first | exact HB.out | apply below_alloc | apply pw_below_drewN | apply below_drew1) | exact HB.out)))); have n1_ := Aside0.mk (Kd.R_lower ho1 (below_size (by repeat (first | (with_reducible first | exact HB.out | apply below_alloc | apply pw_below_drewN | apply below_drew1) | exact HB.out)))); have n2_ := Aside0.mk (below_step (by repeat (first | (with_reducible first | exact HB.out | apply below_alloc | apply pw_below_drewN | apply below_drew1) | exact HB.out)) hb); clear HB; have HO235 := n0_; have HO237 := n1_; have HB := n2_; clear n0_ n1_ n2_; (try clear hb); (try clear hb2); (try clear hk); (try clear hi); (try clear ho0); (try clear ho1)) | (go_at_call 131; (with_reducible refine (cachepotref1_Runes.calls k a1 t238 t239 _ A4.out).mono ?_); rintro e w6 ⟨v240, v242, rfl, ho0, ho1, hb⟩; have n0_ := Aside0.mk (Kd.R_mono (Kd.R_told (Kd.R_told (Kd.R_old (by (with_reducible repeat (first | apply Kd.R_alloc | apply Kd.R_drewN | apply Kd.R_drew)); exact HO235.out) hb) (Kd.R_base ho0)) (Kd.R_base ho1)) (fun _ h_ => h_.1)); have n1_ := Aside0.mk (Kd.R_mono (Kd.R_told (Kd.R_told (Kd.R_old (by (with_reducible repeat (first | apply Kd.R_alloc | apply Kd.R_drewN | apply Kd.R_drew)); exact HO237.out) hb) (Kd.R_base ho0)) (Kd.R_base ho1)) (fun _ h_ => h_.1)); have n2_ := Aside0.mk (Kd.R_lower (Kd.R_new' (Kd.R_new' ho0 (Kd.R_lt (by (with_reducible repeat (first | apply Kd.R_alloc | apply Kd.R_drewN | apply Kd.R_drew)); exact HO235.out))) (Kd.R_lt (by (with_reducible repeat (first | apply Kd.R_alloc | apply Kd.R_drewN | apply Kd.R_drew)); exact HO237.out))) (below_size (by repeat (first | (with_reducible first | exact HB.out | apply below_alloc | apply pw_below_drewN | apply below_drew1) | exact HB.out)))); have n3_ := Aside0.mk (Kd.R_lower (Kd.R_new' (Kd.R_new' ho1 (Kd.R_lt (by (with_reducible repeat (first | apply Kd.R_alloc | apply Kd.R_drewN | apply Kd.R_drew)); exact HO235.out))) (Kd.R_lt (by (with_reducible repeat (first | apply Kd.R_alloc | apply Kd.R_drewN | apply Kd.R_drew)); exact HO237.out))) (below_size (by repeat (first | (with_reducible first | exact HB.out | apply below_alloc | apply pw_below_drewN | apply below_drew1) | exact HB.out)))); have n4_ := Aside0.mk (below_step (by repeat (first | (with_reducible first | exact HB.out | apply below_alloc | apply pw_below_drewN | apply below_drew1) | exact HB.out)) hb); clear HO235; clear HO237; clear HB; have HO235 := n0_; have HO237 := n1_; have HO241 := n2_; have HO243 := n3_; have HB := n4_; clear n0_ n1_ n2_ n3_ n4_; (try clear hb); (try clear hb2); (try clear hk); (try clear hi); (try clear ho0); (try clear ho1))); try go_wp2_with (first | (go_at_call 131; (with_reducible refine (cachepotref1_Runes.calls k a0 t232 t233 _ A3.out).mono ?_); rintro e w5 ⟨v234, v236, rfl, ho0, ho1, hb⟩; have n0_ := Aside0.mk (Kd.R_lower ho0 (below_size (by repeat (first | (with_reducible first | exact HB.out | apply below_alloc | apply pw_below_drewN | apply below_drew1) | exact HB.out)))); have n1_ := Aside0.mk (Kd.R_lower ho1 (below_size (by repeat (first | (with_reducible first | exact HB.out | apply below_alloc | apply pw_below_drewN | apply below_drew1) | exact HB.out)))); have n2_ := Aside0.mk (below_step (by repeat (first | (with_reducible first | exact HB.out | apply below_alloc | apply pw_below_drewN | apply below_drew1) | exact HB.out)) hb); clear HB; have HO235 := n0_; have HO237 := n1_; have HB := n2_; clear n0_ n1_ n2_; (try clear hb); (try clear hb2); (try clear hk); (try clear hi); (try clear ho0); (try clear ho1)) | (go_at_call 131; (with_reducible refine (cachepotref1_Runes.calls k a1 t238 t239 _ A4.out).mono ?_); rintro e w6 ⟨v240, v242, rfl, ho0, ho1, hb⟩; have n0_ := Aside0.mk (Kd.R_mono (Kd.R_told (Kd.R_told (Kd.R_old (by (with_reducible repeat (first | apply Kd.R_alloc | apply Kd.R_drewN | apply Kd.R_drew)); exact HO235.out) hb) (Kd.R_base ho0)) (Kd.R_base ho1)) (fun _ h_ => h_.1)); have n1_ := Aside0.mk (Kd.R_mono (Kd.R_told (Kd.R_told (Kd.R_old (by (with_reducible repeat (first | apply Kd.R_alloc | apply Kd.R_drewN | apply Kd.R_drew)); exact HO237.out) hb) (Kd.R_base ho0)) (Kd.R_base ho1)) (fun _ h_ => h_.1)); have n2_ := Aside0.mk (Kd.R_lower (Kd.R_new' (Kd.R_new' ho0 (Kd.R_lt (by (with_reducible repeat (first | apply Kd.R_alloc | apply Kd.R_drewN | apply Kd.R_drew)); exact HO235.out))) (Kd.R_lt (by (with_reducible repeat (first | apply Kd.R_alloc | apply Kd.R_drewN | apply Kd.R_drew)); exact HO237.out))) (below_size (by repeat (first | (with_reducible first | exact HB.out | apply below_alloc | apply pw_below_drewN | apply below_drew1) | exact HB.out)))); have n3_ := Aside0.mk (Kd.R_lower (Kd.R_new' (Kd.R_new' ho1 (Kd.R_lt (by (with_reducible repeat (first | apply Kd.R_alloc | apply Kd.R_drewN | apply Kd.R_drew)); exact HO235.out))) (Kd.R_lt (by (with_reducible repeat (first | apply Kd.R_alloc | apply Kd.R_drewN | apply Kd.R_drew)); exact HO237.out))) (below_size (by repeat (first | (with_reducible first | exact HB.out | apply below_alloc | apply pw_below_drewN | apply below_drew1) | exact HB.out)))); have n4_ := Aside0.mk (below_step (by repeat (first | (with_reducible first | exact HB.out | apply below_alloc | apply pw_below_drewN | apply below_drew1) | exact HB.out)) hb); clear HO235; clear HO237; clear HB; have HO235 := n0_; have HO237 := n1_; have HO241 := n2_; have HO243 := n3_; have HB := n4_; clear n0_ n1_ n2_ n3_ n4_; (try clear hb); (try clear hb2); (try clear hk); (try clear hi); (try clear ho0); (try clear ho1))))
  go_loopg [9] k (fun kq v9 w' => ∃ (x9_1 : Int), v9 = .int .i64 x9_1 ∧ Aside0 (cachepotref1_KeyCommon.l0 kq t232 t238 x9_1 = some r) ∧ Aside0 (kq ≤ k) ∧ Aside0 (Kd.R (Kd.int .i64) 3 w' w.heap.size (fun k_ => some k_ ≠ (v240 : Value).ownBlock) v234 t232) ∧ Aside0 (Kd.R (Kd.int .i64) 3 w' w.heap.size (fun k_ => some k_ ≠ (v234 : Value).ownBlock) v240 t238) ∧ Aside0 (Below w.heap.size w w'))
  case atStart => exact ⟨(0), (by first | rfl | (simp; done) | (simp [*]; done)), H', ⟨Nat.le_refl _⟩, ⟨by (with_reducible repeat (first | apply Kd.R_alloc | apply Kd.R_drewN | apply Kd.R_drew)); exact Kd.R_mono HO235.out (fun _ hk => hk.1.2)⟩, ⟨by (with_reducible repeat (first | apply Kd.R_alloc | apply Kd.R_drewN | apply Kd.R_drew)); exact Kd.R_mono HO241.out (fun _ hk => hk.1.2)⟩, ⟨by repeat (first | (with_reducible first | exact HB.out | apply below_alloc | apply pw_below_drewN | apply below_drew1) | exact HB.out)⟩⟩
  case round =>
    clear H'
    try clear c1
    try clear p2
    obtain ⟨x9_1, rfl, HA, HK1, HO_5, HO_7, HB⟩ := hrel
    cases gk with
    | zero => exact absurd HA.out (by simp [cachepotref1_KeyCommon.l0])
    | succ k1 =>
      have H := HA.out
      clear HA
      simp only [cachepotref1_KeyCommon.l0] at H
      by_cases c7 : x9_1 < (t232.length : Int)
      · rw [if_pos c7] at H
        have c7b0 : decide (x9_1 < (t232.length : Int)) = true := decide_eq_true c7
        clear c7
        by_cases c8 : x9_1 < (t238.length : Int)
        · rw [if_pos c8] at H
          have c8b0 : decide (x9_1 < (t238.length : Int)) = true := decide_eq_true c8
          clear c8
          by_cases c9 : 0 ≤ x9_1
          · rw [if_pos c9] at H
            have c9b0 : decide (0 ≤ x9_1) = true := decide_eq_true c9
            clear c9
            by_cases c10 : (rd t232 x9_1) = (rd t238 x9_1)
            · rw [if_pos c10] at H
              have c10b0 : ((rd t232 x9_1) == (rd t238 x9_1)) = true := beq_iff_eq.mpr c10
              have c10b1 : ((rd t232 x9_1) != (rd t238 x9_1)) = false := bne_eq_false_iff_eq.mpr c10
              clear c10
              have H' := Aside0.mk H
              clear H
              obtain ⟨Ao11, co11, eo11⟩ := Kd.R_slice HO_5.out
              subst eo11
              obtain ⟨Ao12, co12, eo12⟩ := Kd.R_slice HO_7.out
              subst eo12
              have p244 : 0 ≤ (x9_1 : Int) := of_decide_eq_true (by first | (with_reducible assumption) | assumption)
              have q244 : x9_1 < (t232.length : Int) := of_decide_eq_true (by first | (with_reducible assumption) | assumption)
              obtain ⟨ad244, e244, hx244_0⟩ := Kd.at_int (Kd.R_reads' HO_5.out).2.2 x9_1 p244 q244
              cases e244
              replace p244 := eq_true p244
              replace q244 := eq_true q244
              have p245 : 0 ≤ (x9_1 : Int) := of_decide_eq_true (by first | (with_reducible assumption) | assumption)
              have q245 : x9_1 < (t238.length : Int) := of_decide_eq_true (by first | (with_reducible assumption) | assumption)
              obtain ⟨ad245, e245, hx245_0⟩ := Kd.at_int (Kd.R_reads' HO_7.out).2.2 x9_1 p245 q245
              cases e245
              replace p245 := eq_true p245
              replace q245 := eq_true q245
              go_wp2
              repeat (go_quiet (fail); try go_wp2)
              go_roundg k1
              case measure => have := HK1.out; omega
              case rel => exact ⟨(wrap64 (x9_1 + 1)), (by first | rfl | (simp; done) | (simp [*]; done)), H', ⟨by have := HK1.out; omega⟩, ⟨by (with_reducible repeat (first | apply Kd.R_alloc | apply Kd.R_drewN | apply Kd.R_drew)); exact HO_5.out⟩, ⟨by (with_reducible repeat (first | apply Kd.R_alloc | apply Kd.R_drewN | apply Kd.R_drew)); exact HO_7.out⟩, ⟨by repeat (first | (with_reducible first | exact HB.out | apply below_alloc | apply pw_below_drewN | apply below_drew1) | exact HB.out)⟩⟩
            · rw [if_neg c10] at H
              have c10b0 : ((rd t232 x9_1) == (rd t238 x9_1)) = false := beq_eq_false_iff_ne.mpr c10
              have c10b1 : ((rd t232 x9_1) != (rd t238 x9_1)) = true := bne_iff_ne.mpr c10
              obtain rfl := Option.some.inj H
              obtain ⟨Ao13, co13, eo13⟩ := Kd.R_slice HO_5.out
              subst eo13
              obtain ⟨Ao14, co14, eo14⟩ := Kd.R_slice HO_7.out
              subst eo14
              have p244 : 0 ≤ (x9_1 : Int) := of_decide_eq_true (by first | (with_reducible assumption) | assumption)
              have q244 : x9_1 < (t232.length : Int) := of_decide_eq_true (by first | (with_reducible assumption) | assumption)
              obtain ⟨ad244, e244, hx244_0⟩ := Kd.at_int (Kd.R_reads' HO_5.out).2.2 x9_1 p244 q244
              cases e244
              replace p244 := eq_true p244
              replace q244 := eq_true q244
              have p245 : 0 ≤ (x9_1 : Int) := of_decide_eq_true (by first | (with_reducible assumption) | assumption)
              have q245 : x9_1 < (t238.length : Int) := of_decide_eq_true (by first | (with_reducible assumption) | assumption)
              obtain ⟨ad245, e245, hx245_0⟩ := Kd.at_int (Kd.R_reads' HO_7.out).2.2 x9_1 p245 q245
              cases e245
              replace p245 := eq_true p245
              replace q245 := eq_true q245
              go_wp2
              repeat (go_quiet (fail); try go_wp2)
              go_ret
              exact ⟨by first | rfl | (simp [errW_none, errW_some] <;> rfl) | (simp [*, errW_none, errW_some] <;> rfl), by repeat (first | (with_reducible first | exact HB.out | apply below_alloc | apply pw_below_drewN | apply below_drew1) | exact HB.out)⟩
          · rw [if_neg c9] at H
            exact absurd H (by simp)
        · rw [if_neg c8] at H
          have c8b0 : decide (x9_1 < (t238.length : Int)) = false := decide_eq_false c8
          clear c8
          obtain rfl := Option.some.inj H
          obtain ⟨Ao15, co15, eo15⟩ := Kd.R_slice HO_5.out
          subst eo15
          obtain ⟨Ao16, co16, eo16⟩ := Kd.R_slice HO_7.out
          subst eo16
          go_wp2
          repeat (go_quiet (fail); try go_wp2)
          go_ret
          exact ⟨by first | rfl | (simp [errW_none, errW_some] <;> rfl) | (simp [*, errW_none, errW_some] <;> rfl), by repeat (first | (with_reducible first | exact HB.out | apply below_alloc | apply pw_below_drewN | apply below_drew1) | exact HB.out)⟩
      · rw [if_neg c7] at H
        have c7b0 : decide (x9_1 < (t232.length : Int)) = false := decide_eq_false c7
        clear c7
        obtain rfl := Option.some.inj H
        obtain ⟨Ao17, co17, eo17⟩ := Kd.R_slice HO_5.out
        subst eo17
        go_wp2
        repeat (go_quiet (fail); try go_wp2)
        go_ret
        exact ⟨by first | rfl | (simp [errW_none, errW_some] <;> rfl) | (simp [*, errW_none, errW_some] <;> rfl), by repeat (first | (with_reducible first | exact HB.out | apply below_alloc | apply pw_below_drewN | apply below_drew1) | exact HB.out)⟩
def cachepotref1_KeyCmp.j0 : Nat → List Int → List Int → Int → Bool → Option (Int)
  | 0, _, _, _, _ => none
  | k + 1, x5, x7, x9, x23 => if x23 = true then (some 0) else (if x9 = (x5.length : Int) then (some (-1)) else (if x9 = (x7.length : Int) then (some 1) else (if 0 ≤ x9 then (if x9 < (x5.length : Int) then (if x9 < (x7.length : Int) then (if (rd x5 x9) < (rd x7 x9) then (some (-1)) else (some 1)) else (none)) else (none)) else (none))))
def cachepotref1_KeyCmp.f (k : Nat) (a0 : ByteArray) (a1 : ByteArray) : Option (Int) := (cachepotref1_Runes.f k a0).bind fun bt246 => ((cachepotref1_Runes.f k a1).bind fun bt252 => ((cachepotref1_KeyCommon.f k a0 a1).bind fun t258 => (if t258 = (bt246.1.length : Int) then (cachepotref1_KeyCmp.j0 k bt246.1 bt252.1 t258 (t258 == (bt252.1.length : Int))) else (cachepotref1_KeyCmp.j0 k bt246.1 bt252.1 t258 false))))
set_option maxHeartbeats 8000000 in
set_option maxRecDepth 100000 in
theorem cachepotref1_KeyCmp.calls (k : Nat) (a0 : ByteArray) (a1 : ByteArray) (r : Int) (w : World) (h : cachepotref1_KeyCmp.f k a0 a1 = some r) :
    Calls Tryd.prog 121 #[.string a0, .string a1] w fun e w' => e = .returned (.int .i64 r) ∧ Below w.heap.size w w' := by
  have HB := Aside0.mk (Below.refl w.heap.size w)
  have H : ((cachepotref1_Runes.f k a0).bind fun bt246 => ((cachepotref1_Runes.f k a1).bind fun bt252 => ((cachepotref1_KeyCommon.f k a0 a1).bind fun t258 => (if t258 = (bt246.1.length : Int) then (cachepotref1_KeyCmp.j0 k bt246.1 bt252.1 t258 (t258 == (bt252.1.length : Int))) else (cachepotref1_KeyCmp.j0 k bt246.1 bt252.1 t258 false))))) = some r := h
  clear h
  replace H := Option.bind_eq_some_iff.mp H
  obtain ⟨⟨t246, t247⟩, A30, H⟩ := H
  replace H : ((cachepotref1_Runes.f k a1).bind fun bt252 => ((cachepotref1_KeyCommon.f k a0 a1).bind fun t258 => (if t258 = (t246.length : Int) then (cachepotref1_KeyCmp.j0 k t246 bt252.1 t258 (t258 == (bt252.1.length : Int))) else (cachepotref1_KeyCmp.j0 k t246 bt252.1 t258 false)))) = some r := H
  have A3 := Aside0.mk A30
  clear A30
  replace H := Option.bind_eq_some_iff.mp H
  obtain ⟨⟨t252, t253⟩, A40, H⟩ := H
  replace H : ((cachepotref1_KeyCommon.f k a0 a1).bind fun t258 => (if t258 = (t246.length : Int) then (cachepotref1_KeyCmp.j0 k t246 t252 t258 (t258 == (t252.length : Int))) else (cachepotref1_KeyCmp.j0 k t246 t252 t258 false))) = some r := H
  have A4 := Aside0.mk A40
  clear A40
  replace H := Option.bind_eq_some_iff.mp H
  obtain ⟨t258, A50, H⟩ := H
  replace H : (if t258 = (t246.length : Int) then (cachepotref1_KeyCmp.j0 k t246 t252 t258 (t258 == (t252.length : Int))) else (cachepotref1_KeyCmp.j0 k t246 t252 t258 false)) = some r := H
  have A5 := Aside0.mk A50
  clear A50
  have HC6 := Aside0.mk H
  clear H
  go_enter Tryd.func121, Tryd.ntmps121
  go_upto_region 4 with (first | (go_at_call 131; (with_reducible refine (cachepotref1_Runes.calls k a0 t246 t247 _ A3.out).mono ?_); rintro e w7 ⟨v248, v250, rfl, ho0, ho1, hb⟩; have n0_ := Aside0.mk (Kd.R_lower ho0 (below_size (by repeat (first | (with_reducible first | exact HB.out | apply below_alloc | apply pw_below_drewN | apply below_drew1) | exact HB.out)))); have n1_ := Aside0.mk (Kd.R_lower ho1 (below_size (by repeat (first | (with_reducible first | exact HB.out | apply below_alloc | apply pw_below_drewN | apply below_drew1) | exact HB.out)))); have n2_ := Aside0.mk (below_step (by repeat (first | (with_reducible first | exact HB.out | apply below_alloc | apply pw_below_drewN | apply below_drew1) | exact HB.out)) hb); clear HB; have HO249 := n0_; have HO251 := n1_; have HB := n2_; clear n0_ n1_ n2_; (try clear hb); (try clear hb2); (try clear hk); (try clear hi); (try clear ho0); (try clear ho1)) | (go_at_call 131; (with_reducible refine (cachepotref1_Runes.calls k a1 t252 t253 _ A4.out).mono ?_); rintro e w8 ⟨v254, v256, rfl, ho0, ho1, hb⟩; have n0_ := Aside0.mk (Kd.R_mono (Kd.R_told (Kd.R_told (Kd.R_old (by (with_reducible repeat (first | apply Kd.R_alloc | apply Kd.R_drewN | apply Kd.R_drew)); exact HO249.out) hb) (Kd.R_base ho0)) (Kd.R_base ho1)) (fun _ h_ => h_.1)); have n1_ := Aside0.mk (Kd.R_mono (Kd.R_told (Kd.R_told (Kd.R_old (by (with_reducible repeat (first | apply Kd.R_alloc | apply Kd.R_drewN | apply Kd.R_drew)); exact HO251.out) hb) (Kd.R_base ho0)) (Kd.R_base ho1)) (fun _ h_ => h_.1)); have n2_ := Aside0.mk (Kd.R_lower (Kd.R_new' (Kd.R_new' ho0 (Kd.R_lt (by (with_reducible repeat (first | apply Kd.R_alloc | apply Kd.R_drewN | apply Kd.R_drew)); exact HO249.out))) (Kd.R_lt (by (with_reducible repeat (first | apply Kd.R_alloc | apply Kd.R_drewN | apply Kd.R_drew)); exact HO251.out))) (below_size (by repeat (first | (with_reducible first | exact HB.out | apply below_alloc | apply pw_below_drewN | apply below_drew1) | exact HB.out)))); have n3_ := Aside0.mk (Kd.R_lower (Kd.R_new' (Kd.R_new' ho1 (Kd.R_lt (by (with_reducible repeat (first | apply Kd.R_alloc | apply Kd.R_drewN | apply Kd.R_drew)); exact HO249.out))) (Kd.R_lt (by (with_reducible repeat (first | apply Kd.R_alloc | apply Kd.R_drewN | apply Kd.R_drew)); exact HO251.out))) (below_size (by repeat (first | (with_reducible first | exact HB.out | apply below_alloc | apply pw_below_drewN | apply below_drew1) | exact HB.out)))); have n4_ := Aside0.mk (below_step (by repeat (first | (with_reducible first | exact HB.out | apply below_alloc | apply pw_below_drewN | apply below_drew1) | exact HB.out)) hb); clear HO249; clear HO251; clear HB; have HO249 := n0_; have HO251 := n1_; have HO255 := n2_; have HO257 := n3_; have HB := n4_; clear n0_ n1_ n2_ n3_ n4_; (try clear hb); (try clear hb2); (try clear hk); (try clear hi); (try clear ho0); (try clear ho1)) | (go_at_call 132; (with_reducible refine (cachepotref1_KeyCommon.calls k a0 a1 t258 _ A5.out).mono ?_); rintro e w9 ⟨rfl, hb⟩; have n0_ := Aside0.mk (Kd.R_below (by (with_reducible repeat (first | apply Kd.R_alloc | apply Kd.R_drewN | apply Kd.R_drew)); exact HO249.out) hb); have n1_ := Aside0.mk (Kd.R_below (by (with_reducible repeat (first | apply Kd.R_alloc | apply Kd.R_drewN | apply Kd.R_drew)); exact HO251.out) hb); have n2_ := Aside0.mk (Kd.R_below (by (with_reducible repeat (first | apply Kd.R_alloc | apply Kd.R_drewN | apply Kd.R_drew)); exact HO255.out) hb); have n3_ := Aside0.mk (Kd.R_below (by (with_reducible repeat (first | apply Kd.R_alloc | apply Kd.R_drewN | apply Kd.R_drew)); exact HO257.out) hb); have n4_ := Aside0.mk (below_step (by repeat (first | (with_reducible first | exact HB.out | apply below_alloc | apply pw_below_drewN | apply below_drew1) | exact HB.out)) hb); clear HO249; clear HO251; clear HO255; clear HO257; clear HB; have HO249 := n0_; have HO251 := n1_; have HO255 := n2_; have HO257 := n3_; have HB := n4_; clear n0_ n1_ n2_ n3_ n4_; (try clear hb); (try clear hb2); (try clear hk); (try clear hi)))
  repeat (go_quiet (first | (go_at_call 131; (with_reducible refine (cachepotref1_Runes.calls k a0 t246 t247 _ A3.out).mono ?_); rintro e w7 ⟨v248, v250, rfl, ho0, ho1, hb⟩; have n0_ := Aside0.mk (Kd.R_lower ho0 (below_size (by repeat (first | (with_reducible first | exact HB.out | apply below_alloc | apply pw_below_drewN | apply below_drew1) | exact HB.out)))); have n1_ := Aside0.mk (Kd.R_lower ho1 (below_size (by repeat (first | (with_reducible first | exact HB.out | apply below_alloc | apply pw_below_drewN | apply below_drew1) | exact HB.out)))); have n2_ := Aside0.mk (below_step (by repeat (first | (with_reducible first | exact HB.out | apply below_alloc | apply pw_below_drewN | apply below_drew1) | exact HB.out)) hb); clear HB; have HO249 := n0_; have HO251 := n1_; have HB := n2_; clear n0_ n1_ n2_; (try clear hb); (try clear hb2); (try clear hk); (try clear hi); (try clear ho0); (try clear ho1)) | (go_at_call 131; (with_reducible refine (cachepotref1_Runes.calls k a1 t252 t253 _ A4.out).mono ?_); rintro e w8 ⟨v254, v256, rfl, ho0, ho1, hb⟩; have n0_ := Aside0.mk (Kd.R_mono (Kd.R_told (Kd.R_told (Kd.R_old (by (with_reducible repeat (first | apply Kd.R_alloc | apply Kd.R_drewN | apply Kd.R_drew)); exact HO249.out) hb) (Kd.R_base ho0)) (Kd.R_base ho1)) (fun _ h_ => h_.1)); have n1_ := Aside0.mk (Kd.R_mono (Kd.R_told (Kd.R_told (Kd.R_old (by (with_reducible repeat (first | apply Kd.R_alloc | apply Kd.R_drewN | apply Kd.R_drew)); exact HO251.out) hb) (Kd.R_base ho0)) (Kd.R_base ho1)) (fun _ h_ => h_.1)); have n2_ := Aside0.mk (Kd.R_lower (Kd.R_new' (Kd.R_new' ho0 (Kd.R_lt (by (with_reducible repeat (first | apply Kd.R_alloc | apply Kd.R_drewN | apply Kd.R_drew)); exact HO249.out))) (Kd.R_lt (by (with_reducible repeat (first | apply Kd.R_alloc | apply Kd.R_drewN | apply Kd.R_drew)); exact HO251.out))) (below_size (by repeat (first | (with_reducible first | exact HB.out | apply below_alloc | apply pw_below_drewN | apply below_drew1) | exact HB.out)))); have n3_ := Aside0.mk (Kd.R_lower (Kd.R_new' (Kd.R_new' ho1 (Kd.R_lt (by (with_reducible repeat (first | apply Kd.R_alloc | apply Kd.R_drewN | apply Kd.R_drew)); exact HO249.out))) (Kd.R_lt (by (with_reducible repeat (first | apply Kd.R_alloc | apply Kd.R_drewN | apply Kd.R_drew)); exact HO251.out))) (below_size (by repeat (first | (with_reducible first | exact HB.out | apply below_alloc | apply pw_below_drewN | apply below_drew1) | exact HB.out)))); have n4_ := Aside0.mk (below_step (by repeat (first | (with_reducible first | exact HB.out | apply below_alloc | apply pw_below_drewN | apply below_drew1) | exact HB.out)) hb); clear HO249; clear HO251; clear HB; have HO249 := n0_; have HO251 := n1_; have HO255 := n2_; have HO257 := n3_; have HB := n4_; clear n0_ n1_ n2_ n3_ n4_; (try clear hb); (try clear hb2); (try clear hk); (try clear hi); (try clear ho0); (try clear ho1)) | (go_at_call 132; (with_reducible refine (cachepotref1_KeyCommon.calls k a0 a1 t258 _ A5.out).mono ?_); rintro e w9 ⟨rfl, hb⟩; have n0_ := Aside0.mk (Kd.R_below (by (with_reducible repeat (first | apply Kd.R_alloc | apply Kd.R_drewN | apply Kd.R_drew)); exact HO249.out) hb); have n1_ := Aside0.mk (Kd.R_below (by (with_reducible repeat (first | apply Kd.R_alloc | apply Kd.R_drewN | apply Kd.R_drew)); exact HO251.out) hb); have n2_ := Aside0.mk (Kd.R_below (by (with_reducible repeat (first | apply Kd.R_alloc | apply Kd.R_drewN | apply Kd.R_drew)); exact HO255.out) hb); have n3_ := Aside0.mk (Kd.R_below (by (with_reducible repeat (first | apply Kd.R_alloc | apply Kd.R_drewN | apply Kd.R_drew)); exact HO257.out) hb); have n4_ := Aside0.mk (below_step (by repeat (first | (with_reducible first | exact HB.out | apply below_alloc | apply pw_below_drewN | apply below_drew1) | exact HB.out)) hb); clear HO249; clear HO251; clear HO255; clear HO257; clear HB; have HO249 := n0_; have HO251 := n1_; have HO255 := n2_; have HO257 := n3_; have HB := n4_; clear n0_ n1_ n2_ n3_ n4_; (try clear hb); (try clear hb2); (try clear hk); (try clear hi))); go_upto_region 4 with (first | (go_at_call 131; (with_reducible refine (cachepotref1_Runes.calls k a0 t246 t247 _ A3.out).mono ?_); rintro e w7 ⟨v248, v250, rfl, ho0, ho1, hb⟩; have n0_ := Aside0.mk (Kd.R_lower ho0 (below_size (by repeat (first | (with_reducible first | exact HB.out | apply below_alloc | apply pw_below_drewN | apply below_drew1) | exact HB.out)))); have n1_ := Aside0.mk (Kd.R_lower ho1 (below_size (by repeat (first | (with_reducible first | exact HB.out | apply below_alloc | apply pw_below_drewN | apply below_drew1) | exact HB.out)))); have n2_ := Aside0.mk (below_step (by repeat (first | (with_reducible first | exact HB.out | apply below_alloc | apply pw_below_drewN | apply below_drew1) | exact HB.out)) hb); clear HB; have HO249 := n0_; have HO251 := n1_; have HB := n2_; clear n0_ n1_ n2_; (try clear hb); (try clear hb2); (try clear hk); (try clear hi); (try clear ho0); (try clear ho1)) | (go_at_call 131; (with_reducible refine (cachepotref1_Runes.calls k a1 t252 t253 _ A4.out).mono ?_); rintro e w8 ⟨v254, v256, rfl, ho0, ho1, hb⟩; have n0_ := Aside0.mk (Kd.R_mono (Kd.R_told (Kd.R_told (Kd.R_old (by (with_reducible repeat (first | apply Kd.R_alloc | apply Kd.R_drewN | apply Kd.R_drew)); exact HO249.out) hb) (Kd.R_base ho0)) (Kd.R_base ho1)) (fun _ h_ => h_.1)); have n1_ := Aside0.mk (Kd.R_mono (Kd.R_told (Kd.R_told (Kd.R_old (by (with_reducible repeat (first | apply Kd.R_alloc | apply Kd.R_drewN | apply Kd.R_drew)); exact HO251.out) hb) (Kd.R_base ho0)) (Kd.R_base ho1)) (fun _ h_ => h_.1)); have n2_ := Aside0.mk (Kd.R_lower (Kd.R_new' (Kd.R_new' ho0 (Kd.R_lt (by (with_reducible repeat (first | apply Kd.R_alloc | apply Kd.R_drewN | apply Kd.R_drew)); exact HO249.out))) (Kd.R_lt (by (with_reducible repeat (first | apply Kd.R_alloc | apply Kd.R_drewN | apply Kd.R_drew)); exact HO251.out))) (below_size (by repeat (first | (with_reducible first | exact HB.out | apply below_alloc | apply pw_below_drewN | apply below_drew1) | exact HB.out)))); have n3_ := Aside0.mk (Kd.R_lower (Kd.R_new' (Kd.R_new' ho1 (Kd.R_lt (by (with_reducible repeat (first | apply Kd.R_alloc | apply Kd.R_drewN | apply Kd.R_drew)); exact HO249.out))) (Kd.R_lt (by (with_reducible repeat (first | apply Kd.R_alloc | apply Kd.R_drewN | apply Kd.R_drew)); exact HO251.out))) (below_size (by repeat (first | (with_reducible first | exact HB.out | apply below_alloc | apply pw_below_drewN | apply below_drew1) | exact HB.out)))); have n4_ := Aside0.mk (below_step (by repeat (first | (with_reducible first | exact HB.out | apply below_alloc | apply pw_below_drewN | apply below_drew1) | exact HB.out)) hb); clear HO249; clear HO251; clear HB; have HO249 := n0_; have HO251 := n1_; have HO255 := n2_; have HO257 := n3_; have HB := n4_; clear n0_ n1_ n2_ n3_ n4_; (try clear hb); (try clear hb2); (try clear hk); (try clear hi); (try clear ho0); (try clear ho1)) | (go_at_call 132; (with_reducible refine (cachepotref1_KeyCommon.calls k a0 a1 t258 _ A5.out).mono ?_); rintro e w9 ⟨rfl, hb⟩; have n0_ := Aside0.mk (Kd.R_below (by (with_reducible repeat (first | apply Kd.R_alloc | apply Kd.R_drewN | apply Kd.R_drew)); exact HO249.out) hb); have n1_ := Aside0.mk (Kd.R_below (by (with_reducible repeat (first | apply Kd.R_alloc | apply Kd.R_drewN | apply Kd.R_drew)); exact HO251.out) hb); have n2_ := Aside0.mk (Kd.R_below (by (with_reducible repeat (first | apply Kd.R_alloc | apply Kd.R_drewN | apply Kd.R_drew)); exact HO255.out) hb); have n3_ := Aside0.mk (Kd.R_below (by (with_reducible repeat (first | apply Kd.R_alloc | apply Kd.R_drewN | apply Kd.R_drew)); exact HO257.out) hb); have n4_ := Aside0.mk (below_step (by repeat (first | (with_reducible first | exact HB.out | apply below_alloc | apply pw_below_drewN | apply below_drew1) | exact HB.out)) hb); clear HO249; clear HO251; clear HO255; clear HO257; clear HB; have HO249 := n0_; have HO251 := n1_; have HO255 := n2_; have HO257 := n3_; have HB := n4_; clear n0_ n1_ n2_ n3_ n4_; (try clear hb); (try clear hb2); (try clear hk); (try clear hi))))
  (try simp only [Act.put, List.setIfInBounds_toArray, List.set_cons_zero, List.set_cons_succ])
  go_cut [23] (fun v23 wc => ∃ (kq : Nat) (x23_5 : Bool), v23 = .bool x23_5 ∧ Aside0 (cachepotref1_KeyCmp.j0 kq t246 t252 t258 x23_5 = some r) ∧ Aside0 (kq ≤ k) ∧ Aside0 (Kd.R (Kd.int .i64) 3 wc w.heap.size (fun k_ => some k_ ≠ (v254 : Value).ownBlock) v248 t246) ∧ Aside0 (Kd.R (Kd.int .i64) 3 wc w.heap.size (fun k_ => some k_ ≠ (v248 : Value).ownBlock) v254 t252) ∧ Aside0 (Below w.heap.size w wc))
  case first =>
    have H := HC6.out
    clear HC6
    by_cases c10 : t258 = (t246.length : Int)
    · rw [if_pos c10] at H
      have c10b0 : (t258 == (t246.length : Int)) = true := beq_iff_eq.mpr c10
      have c10b1 : (t258 != (t246.length : Int)) = false := bne_eq_false_iff_eq.mpr c10
      clear c10
      (first | rw [c10b0] | (simp only [i64_w, i32_w]; rw [c10b0]) | skip)
      have H' := Aside0.mk H
      clear H
      obtain ⟨Ao11, co11, eo11⟩ := Kd.R_slice HO249.out
      subst eo11
      obtain ⟨Ao12, co12, eo12⟩ := Kd.R_slice HO255.out
      subst eo12
      go_wp2
      repeat (go_quiet (fail); try go_wp2)
      go_meet
      case rel => exact ⟨_, ((t258 == (t252.length : Int))), (by first | rfl | (simp; done) | (simp [*]; done)), H', ⟨by first | omega | exact Nat.le_refl _⟩, ⟨by (with_reducible repeat (first | apply Kd.R_alloc | apply Kd.R_drewN | apply Kd.R_drew)); exact Kd.R_mono HO249.out (fun _ hk => hk.1.2)⟩, ⟨by (with_reducible repeat (first | apply Kd.R_alloc | apply Kd.R_drewN | apply Kd.R_drew)); exact Kd.R_mono HO255.out (fun _ hk => hk.1.2)⟩, ⟨by repeat (first | (with_reducible first | exact HB.out | apply below_alloc | apply pw_below_drewN | apply below_drew1) | exact HB.out)⟩⟩
    · rw [if_neg c10] at H
      have c10b0 : (t258 == (t246.length : Int)) = false := beq_eq_false_iff_ne.mpr c10
      have c10b1 : (t258 != (t246.length : Int)) = true := bne_iff_ne.mpr c10
      (first | rw [c10b0] | (simp only [i64_w, i32_w]; rw [c10b0]) | skip)
      have H' := Aside0.mk H
      clear H
      obtain ⟨Ao13, co13, eo13⟩ := Kd.R_slice HO249.out
      subst eo13
      go_wp2
      repeat (go_quiet (fail); try go_wp2)
      go_meet
      case rel => exact ⟨_, (false), (by first | rfl | (simp; done) | (simp [*]; done)), H', ⟨by first | omega | exact Nat.le_refl _⟩, ⟨by (with_reducible repeat (first | apply Kd.R_alloc | apply Kd.R_drewN | apply Kd.R_drew)); exact Kd.R_mono HO249.out (fun _ hk => hk.1.2)⟩, ⟨by (with_reducible repeat (first | apply Kd.R_alloc | apply Kd.R_drewN | apply Kd.R_drew)); exact Kd.R_mono HO255.out (fun _ hk => hk.1.2)⟩, ⟨by repeat (first | (with_reducible first | exact HB.out | apply below_alloc | apply pw_below_drewN | apply below_drew1) | exact HB.out)⟩⟩
  case rest =>
    clear HC6
    try clear c1
    try clear p2
    try clear c10
    try clear c10b0
    try clear c10b1
    try clear c12
    obtain ⟨kq, x23_5, rfl, HA, HJ5, HO_5, HO_7, HB⟩ := hcut
    cases kq with
    | zero => exact absurd HA.out (by simp [cachepotref1_KeyCmp.j0])
    | succ kj5 =>
      have H := HA.out
      clear HA
      simp only [cachepotref1_KeyCmp.j0] at H
      by_cases c14 : x23_5 = true
      · subst c14
        have H1 : (some 0) = some r := by rw [if_pos rfl] at H; exact H
        clear H
        have H := H1
        clear H1
        obtain rfl := Option.some.inj H
        go_wp2
        repeat (go_quiet (fail); try go_wp2)
        go_ret
        exact ⟨by first | rfl | (simp [errW_none, errW_some] <;> rfl) | (simp [*, errW_none, errW_some] <;> rfl), by repeat (first | (with_reducible first | exact HB.out | apply below_alloc | apply pw_below_drewN | apply below_drew1) | exact HB.out)⟩
      · replace c14 := Bool.eq_false_iff.mpr c14
        subst c14
        have H1 : (if t258 = (t246.length : Int) then (some (-1)) else (if t258 = (t252.length : Int) then (some 1) else (if 0 ≤ t258 then (if t258 < (t246.length : Int) then (if t258 < (t252.length : Int) then (if (rd t246 t258) < (rd t252 t258) then (some (-1)) else (some 1)) else (none)) else (none)) else (none)))) = some r := by rw [if_neg (show ¬ (false = true) by decide)] at H; exact H
        clear H
        have H := H1
        clear H1
        by_cases c15 : t258 = (t246.length : Int)
        · rw [if_pos c15] at H
          have c15b0 : (t258 == (t246.length : Int)) = true := beq_iff_eq.mpr c15
          have c15b1 : (t258 != (t246.length : Int)) = false := bne_eq_false_iff_eq.mpr c15
          clear c15
          obtain rfl := Option.some.inj H
          obtain ⟨Ao16, co16, eo16⟩ := Kd.R_slice HO_5.out
          subst eo16
          go_wp2
          repeat (go_quiet (fail); try go_wp2)
          go_ret
          exact ⟨by first | rfl | (simp [errW_none, errW_some] <;> rfl) | (simp [*, errW_none, errW_some] <;> rfl), by repeat (first | (with_reducible first | exact HB.out | apply below_alloc | apply pw_below_drewN | apply below_drew1) | exact HB.out)⟩
        · rw [if_neg c15] at H
          have c15b0 : (t258 == (t246.length : Int)) = false := beq_eq_false_iff_ne.mpr c15
          have c15b1 : (t258 != (t246.length : Int)) = true := bne_iff_ne.mpr c15
          by_cases c17 : t258 = (t252.length : Int)
          · rw [if_pos c17] at H
            have c17b0 : (t258 == (t252.length : Int)) = true := beq_iff_eq.mpr c17
            have c17b1 : (t258 != (t252.length : Int)) = false := bne_eq_false_iff_eq.mpr c17
            clear c17
            obtain rfl := Option.some.inj H
            obtain ⟨Ao18, co18, eo18⟩ := Kd.R_slice HO_5.out
            subst eo18
            obtain ⟨Ao19, co19, eo19⟩ := Kd.R_slice HO_7.out
            subst eo19
            go_wp2
            repeat (go_quiet (fail); try go_wp2)
            go_ret
            exact ⟨by first | rfl | (simp [errW_none, errW_some] <;> rfl) | (simp [*, errW_none, errW_some] <;> rfl), by repeat (first | (with_reducible first | exact HB.out | apply below_alloc | apply pw_below_drewN | apply below_drew1) | exact HB.out)⟩
          · rw [if_neg c17] at H
            have c17b0 : (t258 == (t252.length : Int)) = false := beq_eq_false_iff_ne.mpr c17
            have c17b1 : (t258 != (t252.length : Int)) = true := bne_iff_ne.mpr c17
            by_cases c20 : 0 ≤ t258
            · rw [if_pos c20] at H
              have c20b0 : decide (0 ≤ t258) = true := decide_eq_true c20
              clear c20
              by_cases c21 : t258 < (t246.length : Int)
              · rw [if_pos c21] at H
                have c21b0 : decide (t258 < (t246.length : Int)) = true := decide_eq_true c21
                clear c21
                by_cases c22 : t258 < (t252.length : Int)
                · rw [if_pos c22] at H
                  have c22b0 : decide (t258 < (t252.length : Int)) = true := decide_eq_true c22
                  clear c22
                  by_cases c23 : (rd t246 t258) < (rd t252 t258)
                  · rw [if_pos c23] at H
                    have c23b0 : decide ((rd t246 t258) < (rd t252 t258)) = true := decide_eq_true c23
                    clear c23
                    obtain rfl := Option.some.inj H
                    obtain ⟨Ao24, co24, eo24⟩ := Kd.R_slice HO_5.out
                    subst eo24
                    obtain ⟨Ao25, co25, eo25⟩ := Kd.R_slice HO_7.out
                    subst eo25
                    have p259 : 0 ≤ (t258 : Int) := of_decide_eq_true (by first | (with_reducible assumption) | assumption)
                    have q259 : t258 < (t246.length : Int) := of_decide_eq_true (by first | (with_reducible assumption) | assumption)
                    obtain ⟨ad259, e259, hx259_0⟩ := Kd.at_int (Kd.R_reads' HO_5.out).2.2 t258 p259 q259
                    cases e259
                    replace p259 := eq_true p259
                    replace q259 := eq_true q259
                    have p260 : 0 ≤ (t258 : Int) := of_decide_eq_true (by first | (with_reducible assumption) | assumption)
                    have q260 : t258 < (t252.length : Int) := of_decide_eq_true (by first | (with_reducible assumption) | assumption)
                    obtain ⟨ad260, e260, hx260_0⟩ := Kd.at_int (Kd.R_reads' HO_7.out).2.2 t258 p260 q260
                    cases e260
                    replace p260 := eq_true p260
                    replace q260 := eq_true q260
                    go_wp2
                    repeat (go_quiet (fail); try go_wp2)
                    go_ret
                    exact ⟨by first | rfl | (simp [errW_none, errW_some] <;> rfl) | (simp [*, errW_none, errW_some] <;> rfl), by repeat (first | (with_reducible first | exact HB.out | apply below_alloc | apply pw_below_drewN | apply below_drew1) | exact HB.out)⟩
                  · rw [if_neg c23] at H
                    have c23b0 : decide ((rd t246 t258) < (rd t252 t258)) = false := decide_eq_false c23
                    clear c23
                    obtain rfl := Option.some.inj H
                    obtain ⟨Ao26, co26, eo26⟩ := Kd.R_slice HO_5.out
                    subst eo26
                    obtain ⟨Ao27, co27, eo27⟩ := Kd.R_slice HO_7.out
                    subst eo27
                    have p259 : 0 ≤ (t258 : Int) := of_decide_eq_true (by first | (with_reducible assumption) | assumption)
                    have q259 : t258 < (t246.length : Int) := of_decide_eq_true (by first | (with_reducible assumption) | assumption)
                    obtain ⟨ad259, e259, hx259_0⟩ := Kd.at_int (Kd.R_reads' HO_5.out).2.2 t258 p259 q259
                    cases e259
                    replace p259 := eq_true p259
                    replace q259 := eq_true q259
                    have p260 : 0 ≤ (t258 : Int) := of_decide_eq_true (by first | (with_reducible assumption) | assumption)
                    have q260 : t258 < (t252.length : Int) := of_decide_eq_true (by first | (with_reducible assumption) | assumption)
                    obtain ⟨ad260, e260, hx260_0⟩ := Kd.at_int (Kd.R_reads' HO_7.out).2.2 t258 p260 q260
                    cases e260
                    replace p260 := eq_true p260
                    replace q260 := eq_true q260
                    go_wp2
                    repeat (go_quiet (fail); try go_wp2)
                    go_ret
                    exact ⟨by first | rfl | (simp [errW_none, errW_some] <;> rfl) | (simp [*, errW_none, errW_some] <;> rfl), by repeat (first | (with_reducible first | exact HB.out | apply below_alloc | apply pw_below_drewN | apply below_drew1) | exact HB.out)⟩
                · rw [if_neg c22] at H
                  exact absurd H (by simp)
              · rw [if_neg c21] at H
                exact absurd H (by simp)
            · rw [if_neg c20] at H
              exact absurd H (by simp)
def cachepotref1_Ahead.f (k : Nat) (a0 : ByteArray) (a1 : ByteArray) : Option (Bool) := (cachepotref1_KeyCmp.f k a0 a1).bind fun t261 => (if t261 < 0 then (some true) else (if t261 = 0 then (some (Op.bytesLess a0.toList a1.toList)) else (some false)))
set_option maxHeartbeats 8000000 in
set_option maxRecDepth 100000 in
theorem cachepotref1_Ahead.calls (k : Nat) (a0 : ByteArray) (a1 : ByteArray) (r : Bool) (w : World) (h : cachepotref1_Ahead.f k a0 a1 = some r) :
    Calls Tryd.prog 102 #[.string a0, .string a1] w fun e w' => e = .returned (.bool r) ∧ Below w.heap.size w w' := by
  have HB := Aside0.mk (Below.refl w.heap.size w)
  have H : ((cachepotref1_KeyCmp.f k a0 a1).bind fun t261 => (if t261 < 0 then (some true) else (if t261 = 0 then (some (Op.bytesLess a0.toList a1.toList)) else (some false)))) = some r := h
  clear h
  replace H := Option.bind_eq_some_iff.mp H
  obtain ⟨t261, A30, H⟩ := H
  replace H : (if t261 < 0 then (some true) else (if t261 = 0 then (some (Op.bytesLess a0.toList a1.toList)) else (some false))) = some r := H
  have A3 := Aside0.mk A30
  clear A30
  by_cases c4 : t261 < 0
  · rw [if_pos c4] at H
    have c4b0 : decide (t261 < 0) = true := decide_eq_true c4
    clear c4
    obtain rfl := Option.some.inj H
    go_enter Tryd.func102, Tryd.ntmps102
    go_wp2_with (first | ((with_reducible refine gate_callee (f := 121) rfl ?_); refine goesL_ (some 8) rfl rfl Tryd.func121 (by kernel_rfl) rfl #[.string a0, .string a1] rfl (by (try simp only [List.map_toArray, List.map_cons, List.map_nil]); first | done | rfl | (simp only [List.length_drop, List.length_take]; rfl)) ?_; (with_reducible refine (cachepotref1_KeyCmp.calls k a0 a1 t261 _ A3.out).mono ?_); rintro e w5 ⟨rfl, hb⟩; refine ⟨_, rfl, ?_⟩; have n0_ := Aside0.mk (below_step (by repeat (first | (with_reducible first | exact HB.out | apply below_alloc | apply pw_below_drewN | apply below_drew1) | exact HB.out)) hb); clear HB; have HB := n0_; clear n0_; (try clear hb); (try clear hb2); (try clear hk); (try clear hi)))
    go_ret
    exact ⟨by first | rfl | (simp [errW_none, errW_some] <;> rfl) | (simp [*, errW_none, errW_some] <;> rfl), by repeat (first | (with_reducible first | exact HB.out | apply below_alloc | apply pw_below_drewN | apply below_drew1) | exact HB.out)⟩
  · rw [if_neg c4] at H
    have c4b0 : decide (t261 < 0) = false := decide_eq_false c4
    clear c4
    by_cases c6 : t261 = 0
    · rw [if_pos c6] at H
      have c6b0 : (t261 == 0) = true := beq_iff_eq.mpr c6
      have c6b1 : (t261 != 0) = false := bne_eq_false_iff_eq.mpr c6
      clear c6
      obtain rfl := Option.some.inj H
      go_enter Tryd.func102, Tryd.ntmps102
      go_wp2_with (first | ((with_reducible refine gate_callee (f := 121) rfl ?_); refine goesL_ (some 8) rfl rfl Tryd.func121 (by kernel_rfl) rfl #[.string a0, .string a1] rfl (by (try simp only [List.map_toArray, List.map_cons, List.map_nil]); first | done | rfl | (simp only [List.length_drop, List.length_take]; rfl)) ?_; (with_reducible refine (cachepotref1_KeyCmp.calls k a0 a1 t261 _ A3.out).mono ?_); rintro e w7 ⟨rfl, hb⟩; refine ⟨_, rfl, ?_⟩; have n0_ := Aside0.mk (below_step (by repeat (first | (with_reducible first | exact HB.out | apply below_alloc | apply pw_below_drewN | apply below_drew1) | exact HB.out)) hb); clear HB; have HB := n0_; clear n0_; (try clear hb); (try clear hb2); (try clear hk); (try clear hi)))
      go_ret
      exact ⟨by first | rfl | (simp [errW_none, errW_some] <;> rfl) | (simp [*, errW_none, errW_some] <;> rfl), by repeat (first | (with_reducible first | exact HB.out | apply below_alloc | apply pw_below_drewN | apply below_drew1) | exact HB.out)⟩
    · rw [if_neg c6] at H
      have c6b0 : (t261 == 0) = false := beq_eq_false_iff_ne.mpr c6
      have c6b1 : (t261 != 0) = true := bne_iff_ne.mpr c6
      obtain rfl := Option.some.inj H
      go_enter Tryd.func102, Tryd.ntmps102
      go_wp2_with (first | ((with_reducible refine gate_callee (f := 121) rfl ?_); refine goesL_ (some 8) rfl rfl Tryd.func121 (by kernel_rfl) rfl #[.string a0, .string a1] rfl (by (try simp only [List.map_toArray, List.map_cons, List.map_nil]); first | done | rfl | (simp only [List.length_drop, List.length_take]; rfl)) ?_; (with_reducible refine (cachepotref1_KeyCmp.calls k a0 a1 t261 _ A3.out).mono ?_); rintro e w8 ⟨rfl, hb⟩; refine ⟨_, rfl, ?_⟩; have n0_ := Aside0.mk (below_step (by repeat (first | (with_reducible first | exact HB.out | apply below_alloc | apply pw_below_drewN | apply below_drew1) | exact HB.out)) hb); clear HB; have HB := n0_; clear n0_; (try clear hb); (try clear hb2); (try clear hk); (try clear hi)))
      go_ret
      exact ⟨by first | rfl | (simp [errW_none, errW_some] <;> rfl) | (simp [*, errW_none, errW_some] <;> rfl), by repeat (first | (with_reducible first | exact HB.out | apply below_alloc | apply pw_below_drewN | apply below_drew1) | exact HB.out)⟩
def cachepotref3_SameAnswers.l0 : Nat → List (S98) → List (S98) → Int → Option (Bool)
  | 0, _, _, _ => none
  | k + 1, x0, x1, x5 => if x5 < (x0.length : Int) then (if 0 ≤ x5 then (if x5 < (x1.length : Int) then (if (!((((rd_T98 x0 x5).f0).toList) == (((rd_T98 x1 x5).f0).toList)) || (!(((rd_T98 x0 x5).f1) == ((rd_T98 x1 x5).f1)) || (!((((rd_T98 x0 x5).f2).toList) == (((rd_T98 x1 x5).f2).toList)) || (!(((rd_T98 x0 x5).f3) == ((rd_T98 x1 x5).f3)))))) = true then (some false) else (cachepotref3_SameAnswers.l0 k x0 x1 (wrap64 (x5 + 1)))) else (none)) else (none)) else (some true)
def cachepotref3_SameAnswers.f (k : Nat) (l0 : List (S98)) (l1 : List (S98)) : Option (Bool) := if (l0.length : Int) = (l1.length : Int) then (cachepotref3_SameAnswers.l0 k l0 l1 0) else (some false)
set_option maxHeartbeats 8000000 in
set_option maxRecDepth 100000 in
theorem cachepotref3_SameAnswers.calls (k : Nat) (A0 : Option Addr) (c0 : Nat) (l0 : List (S98)) (A1 : Option Addr) (c1 : Nat) (l1 : List (S98)) (r : Bool) (w : World) (hr0 : Kd.C k98 w A0 l0.length l0) (hc0 : l0.length ≤ c0) (hr1 : Kd.C k98 w A1 l1.length l1) (hc1 : l1.length ≤ c1) (h : cachepotref3_SameAnswers.f k l0 l1 = some r) :
    Calls Tryd.prog 77 #[.slice A0 l0.length c0, .slice A1 l1.length c1] w fun e w' => e = .returned (.bool r) ∧ Drawn0 w w' := by
  have hu98 := Tryd.underlying98
  have HR0 := Aside0.mk hr0
  have HC0 := Aside0.mk hc0
  clear hr0 hc0
  have HR1 := Aside0.mk hr1
  have HC1 := Aside0.mk hc1
  clear hr1 hc1
  have H : (if (l0.length : Int) = (l1.length : Int) then (cachepotref3_SameAnswers.l0 k l0 l1 0) else (some false)) = some r := h
  clear h
  by_cases c3 : (l0.length : Int) = (l1.length : Int)
  · rw [if_pos c3] at H
    have c3b0 : ((l0.length : Int) == (l1.length : Int)) = true := beq_iff_eq.mpr c3
    have c3b1 : ((l0.length : Int) != (l1.length : Int)) = false := bne_eq_false_iff_eq.mpr c3
    have c3b2 : (l0.length == l1.length) = true := by first | simpa using c3 | (simp at c3 ⊢; omega)
    clear c3
    have H' := Aside0.mk H
    clear H
    go_enter Tryd.func77, Tryd.ntmps77
    go_wp2
    repeat (go_quiet (fail); try go_wp2)
    go_loopg [5] k (fun kq v5 w' => ∃ (x5_1 : Int), v5 = .int .i64 x5_1 ∧ Aside0 (cachepotref3_SameAnswers.l0 kq l0 l1 x5_1 = some r) ∧ Aside0 (kq ≤ k) ∧ Drawn0 w w')
    case atStart => exact ⟨(0), (by first | rfl | (simp; done) | (simp [*]; done)), H', ⟨Nat.le_refl _⟩, by repeat (first | exact Drawn0.refl _ | apply Drawn0.step)⟩
    case round =>
      clear H'
      try clear c1
      try clear p2
      try clear c3
      try clear c3b0
      try clear c3b1
      try clear c3b2
      obtain ⟨x5_1, rfl, HA, HK1, ⟨m1, rfl⟩⟩ := hrel
      cases gk with
      | zero => exact absurd HA.out (by simp [cachepotref3_SameAnswers.l0])
      | succ k1 =>
        have H := HA.out
        clear HA
        simp only [cachepotref3_SameAnswers.l0] at H
        by_cases c4 : x5_1 < (l0.length : Int)
        · rw [if_pos c4] at H
          have c4b0 : decide (x5_1 < (l0.length : Int)) = true := decide_eq_true c4
          clear c4
          by_cases c5 : 0 ≤ x5_1
          · rw [if_pos c5] at H
            have c5b0 : decide (0 ≤ x5_1) = true := decide_eq_true c5
            clear c5
            by_cases c6 : x5_1 < (l1.length : Int)
            · rw [if_pos c6] at H
              have c6b0 : decide (x5_1 < (l1.length : Int)) = true := decide_eq_true c6
              clear c6
              by_cases c7 : (!((((rd_T98 l0 x5_1).f0).toList) == (((rd_T98 l1 x5_1).f0).toList)) || (!(((rd_T98 l0 x5_1).f1) == ((rd_T98 l1 x5_1).f1)) || (!((((rd_T98 l0 x5_1).f2).toList) == (((rd_T98 l1 x5_1).f2).toList)) || (!(((rd_T98 l0 x5_1).f3) == ((rd_T98 l1 x5_1).f3)))))) = true
              · rw [if_pos c7] at H
                have c7b0 : (!((((rd_T98 l0 x5_1).f0).toList) == (((rd_T98 l1 x5_1).f0).toList)) || (!(((rd_T98 l0 x5_1).f1) == ((rd_T98 l1 x5_1).f1)) || (!((((rd_T98 l0 x5_1).f2).toList) == (((rd_T98 l1 x5_1).f2).toList)) || (!(((rd_T98 l0 x5_1).f3) == ((rd_T98 l1 x5_1).f3)))))) = true := c7
                clear c7
                obtain rfl := Option.some.inj H
                have p262 : 0 ≤ (x5_1 : Int) := of_decide_eq_true (by first | (with_reducible assumption) | assumption)
                have q262 : x5_1 < (l0.length : Int) := of_decide_eq_true (by first | (with_reducible assumption) | assumption)
                obtain ⟨ad262, e262, hx262_0, hx262_1, hx262_2, hx262_3⟩ := at_T98 HR0.out x5_1 p262 q262
                cases e262
                replace p262 := eq_true p262
                replace q262 := eq_true q262
                have p263 : 0 ≤ (x5_1 : Int) := of_decide_eq_true (by first | (with_reducible assumption) | assumption)
                have q263 : x5_1 < (l1.length : Int) := of_decide_eq_true (by first | (with_reducible assumption) | assumption)
                obtain ⟨ad263, e263, hx263_0, hx263_1, hx263_2, hx263_3⟩ := at_T98 HR1.out x5_1 p263 q263
                cases e263
                replace p263 := eq_true p263
                replace q263 := eq_true q263
                go_wp2
                repeat (go_quiet (fail); try go_wp2)
                go_ret
                exact ⟨by first | rfl | (simp; done) | (simp [*]; done), by repeat (first | exact Drawn0.refl _ | apply Drawn0.step)⟩
              · rw [if_neg c7] at H
                have c7b0 : (!((((rd_T98 l0 x5_1).f0).toList) == (((rd_T98 l1 x5_1).f0).toList)) || (!(((rd_T98 l0 x5_1).f1) == ((rd_T98 l1 x5_1).f1)) || (!((((rd_T98 l0 x5_1).f2).toList) == (((rd_T98 l1 x5_1).f2).toList)) || (!(((rd_T98 l0 x5_1).f3) == ((rd_T98 l1 x5_1).f3)))))) = false := by simpa using c7
                clear c7
                have H' := Aside0.mk H
                clear H
                have p262 : 0 ≤ (x5_1 : Int) := of_decide_eq_true (by first | (with_reducible assumption) | assumption)
                have q262 : x5_1 < (l0.length : Int) := of_decide_eq_true (by first | (with_reducible assumption) | assumption)
                obtain ⟨ad262, e262, hx262_0, hx262_1, hx262_2, hx262_3⟩ := at_T98 HR0.out x5_1 p262 q262
                cases e262
                replace p262 := eq_true p262
                replace q262 := eq_true q262
                have p263 : 0 ≤ (x5_1 : Int) := of_decide_eq_true (by first | (with_reducible assumption) | assumption)
                have q263 : x5_1 < (l1.length : Int) := of_decide_eq_true (by first | (with_reducible assumption) | assumption)
                obtain ⟨ad263, e263, hx263_0, hx263_1, hx263_2, hx263_3⟩ := at_T98 HR1.out x5_1 p263 q263
                cases e263
                replace p263 := eq_true p263
                replace q263 := eq_true q263
                go_wp2
                repeat (go_quiet (fail); try go_wp2)
                go_roundg k1
                case measure => have := HK1.out; omega
                case rel => exact ⟨(wrap64 (x5_1 + 1)), (by first | rfl | (simp; done) | (simp [*]; done)), H', ⟨by have := HK1.out; omega⟩, by repeat (first | exact Drawn0.refl _ | apply Drawn0.step)⟩
            · rw [if_neg c6] at H
              exact absurd H (by simp)
          · rw [if_neg c5] at H
            exact absurd H (by simp)
        · rw [if_neg c4] at H
          have c4b0 : decide (x5_1 < (l0.length : Int)) = false := decide_eq_false c4
          clear c4
          obtain rfl := Option.some.inj H
          go_wp2
          repeat (go_quiet (fail); try go_wp2)
          go_ret
          exact ⟨by first | rfl | (simp; done) | (simp [*]; done), by repeat (first | exact Drawn0.refl _ | apply Drawn0.step)⟩
  · rw [if_neg c3] at H
    have c3b0 : ((l0.length : Int) == (l1.length : Int)) = false := beq_eq_false_iff_ne.mpr c3
    have c3b1 : ((l0.length : Int) != (l1.length : Int)) = true := bne_iff_ne.mpr c3
    have c3b2 : (l0.length == l1.length) = false := by first | simpa using c3 | (simp at c3 ⊢; omega)
    obtain rfl := Option.some.inj H
    go_enter Tryd.func77, Tryd.ntmps77
    go_wp2
    repeat (go_quiet (fail); try go_wp2)
    go_ret
    exact ⟨by first | rfl | (simp; done) | (simp [*]; done), by repeat (first | exact Drawn0.refl _ | apply Drawn0.step)⟩
def ledger_Rising.l0 : Nat → List (S43) → Int → Bool → List (S43) → Int → Int → Option (Int × Bool)
  | 0, _, _, _, _, _, _ => none
  | k + 1, x0, x4, x5, x8, x9, x10 => if x10 < x9 then (if 0 ≤ x10 then (if x10 < (x8.length : Int) then (if ((rd_T43 x8 x10).f0) = 1 then (if x5 = true then (if ((rd_T43 x8 x10).f1) ≤ x4 then (some (x10, false)) else (ledger_Rising.l0 k x0 ((rd_T43 x8 x10).f1) true x8 x9 (wrap64 (x10 + 1)))) else (ledger_Rising.l0 k x0 ((rd_T43 x8 x10).f1) true x8 x9 (wrap64 (x10 + 1)))) else (ledger_Rising.l0 k x0 x4 x5 x8 x9 (wrap64 (x10 + 1)))) else (none)) else (none)) else (some ((x0.length : Int), true))
def ledger_Rising.f (k : Nat) (l0 : List (S43)) : Option (Int × Bool) := ledger_Rising.l0 k l0 0 false l0 (l0.length : Int) 0
set_option maxHeartbeats 8000000 in
set_option maxRecDepth 100000 in
theorem ledger_Rising.calls (k : Nat) (A0 : Option Addr) (c0 : Nat) (l0 : List (S43)) (r1 : Int) (r2 : Bool) (w : World) (hr0 : Kd.C k43 w A0 l0.length l0) (hc0 : l0.length ≤ c0) (h : ledger_Rising.f k l0 = some (r1, r2)) :
    Calls Tryd.prog 37 #[.slice A0 l0.length c0] w fun e w' => e = .returned (.tuple #[.int .i64 r1, .bool r2]) ∧ Below w.heap.size w w' := by
  have hu43 := Tryd.underlying43
  have HR0 := Aside0.mk hr0
  have HC0 := Aside0.mk hc0
  clear hr0 hc0
  have HB := Aside0.mk (Below.refl w.heap.size w)
  have H : (ledger_Rising.l0 k l0 0 false l0 (l0.length : Int) 0) = some (r1, r2) := h
  clear h
  have H' := Aside0.mk H
  clear H
  go_enter Tryd.func37, Tryd.ntmps37
  go_wp2
  go_loopg [4, 5, 10] k (fun kq v4 v5 v10 w' => ∃ (x4_1 : Int) (x5_1 : Bool) (x10_1 : Int), v4 = .int .u32 x4_1 ∧ v5 = .bool x5_1 ∧ v10 = .int .i64 x10_1 ∧ Aside0 (ledger_Rising.l0 kq l0 x4_1 x5_1 l0 (l0.length : Int) x10_1 = some (r1, r2)) ∧ Aside0 (kq ≤ k) ∧ Aside0 (Below w.heap.size w w'))
  case atStart => exact ⟨(0), (false), (0), (by first | rfl | (simp; done) | (simp [*]; done)), (by first | rfl | (simp; done) | (simp [*]; done)), (by first | rfl | (simp; done) | (simp [*]; done)), H', ⟨Nat.le_refl _⟩, ⟨by repeat (first | (with_reducible first | exact HB.out | apply below_alloc | apply pw_below_drewN | apply below_drew1) | exact HB.out)⟩⟩
  case round =>
    clear H'
    obtain ⟨x4_1, x5_1, x10_1, rfl, rfl, rfl, HA, HK1, HB⟩ := hrel
    cases gk with
    | zero => exact absurd HA.out (by simp [ledger_Rising.l0])
    | succ k1 =>
      have H := HA.out
      clear HA
      simp only [ledger_Rising.l0] at H
      by_cases c2 : x10_1 < (l0.length : Int)
      · rw [if_pos c2] at H
        have c2b0 : decide (x10_1 < (l0.length : Int)) = true := decide_eq_true c2
        clear c2
        by_cases c3 : 0 ≤ x10_1
        · rw [if_pos c3] at H
          have c3b0 : decide (0 ≤ x10_1) = true := decide_eq_true c3
          clear c3
          by_cases c4 : x10_1 < (l0.length : Int)
          · rw [if_pos c4] at H
            have c4b0 : decide (x10_1 < (l0.length : Int)) = true := decide_eq_true c4
            clear c4
            by_cases c5 : ((rd_T43 l0 x10_1).f0) = 1
            · rw [if_pos c5] at H
              have c5b0 : (((rd_T43 l0 x10_1).f0) == 1) = true := beq_iff_eq.mpr c5
              have c5b1 : (((rd_T43 l0 x10_1).f0) != 1) = false := bne_eq_false_iff_eq.mpr c5
              clear c5
              by_cases c6 : x5_1 = true
              · subst c6
                have H1 : (if ((rd_T43 l0 x10_1).f1) ≤ x4_1 then (some (x10_1, false)) else (ledger_Rising.l0 k1 l0 ((rd_T43 l0 x10_1).f1) true l0 (l0.length : Int) (wrap64 (x10_1 + 1)))) = some (r1, r2) := by rw [if_pos rfl] at H; exact H
                clear H
                have H := H1
                clear H1
                by_cases c7 : ((rd_T43 l0 x10_1).f1) ≤ x4_1
                · rw [if_pos c7] at H
                  have c7b0 : decide (((rd_T43 l0 x10_1).f1) ≤ x4_1) = true := decide_eq_true c7
                  clear c7
                  simp only [Option.some.injEq, Prod.mk.injEq] at H
                  obtain ⟨rfl, rfl⟩ := H
                  have p264 : 0 ≤ (x10_1 : Int) := of_decide_eq_true (by first | (with_reducible assumption) | assumption)
                  have q264 : x10_1 < (l0.length : Int) := of_decide_eq_true (by first | (with_reducible assumption) | assumption)
                  obtain ⟨ad264, A264_2, c264_2, A264_3, c264_3, A264_4, c264_4, e264, hx264_0, hx264_1, hx264_2, hx264_3, hx264_4, hl264_2, hi264_2, hl264_3, hi264_3, hl264_4, hi264_4⟩ := at_T43 HR0.out x10_1 p264 q264
                  cases e264
                  replace hx264_0 := (HB.out.cell (World.block_lt_of_cell? w _ hx264_0)).trans hx264_0
                  replace hx264_1 := (HB.out.cell (World.block_lt_of_cell? w _ hx264_1)).trans hx264_1
                  replace hx264_2 := (HB.out.cell (World.block_lt_of_cell? w _ hx264_2)).trans hx264_2
                  replace hx264_3 := (HB.out.cell (World.block_lt_of_cell? w _ hx264_3)).trans hx264_3
                  replace hx264_4 := (HB.out.cell (World.block_lt_of_cell? w _ hx264_4)).trans hx264_4
                  have HR264_2 := Aside0.mk hi264_2
                  have HC264_2 := Aside0.mk hl264_2
                  clear hi264_2 hl264_2
                  have HR264_3 := Aside0.mk hi264_3
                  have HC264_3 := Aside0.mk hl264_3
                  clear hi264_3 hl264_3
                  have HR264_4 := Aside0.mk hi264_4
                  have HC264_4 := Aside0.mk hl264_4
                  clear hi264_4 hl264_4
                  replace p264 := eq_true p264
                  replace q264 := eq_true q264
                  go_wp2_with (first | ((with_reducible refine gate_dst (N := 7) rfl ?_); refine box_event ?hg (N := 7) ?hd (cs := #[.int .i64 0, .int .u32 0, .slice none 0 0, .slice none 0 0, .slice none 0 0]) (t := 43) ?hr ?_; (case hd => rfl); (case hg => rfl); (case hr => first | (go_simp; done) | (go_simp; rfl)); intro gb265 hg w8 hbox hb; have n0_ := Aside0.mk (below_step (by repeat (first | (with_reducible first | exact HB.out | apply below_alloc | apply pw_below_drewN | apply below_drew1) | exact HB.out)) hb); have n1_ := Aside0.mk (hbox); have n2_ := Aside0.mk ((by rw [hg]; exact (below_size (by repeat (first | (with_reducible first | exact HB.out | apply below_alloc | apply pw_below_drewN | apply below_drew1) | exact HB.out))) : w.heap.size ≤ gb265)); have n3_ := Aside0.mk ((by rw [hg]; exact (below_size (by repeat (first | (with_reducible first | exact HB.out | apply below_alloc | apply pw_below_drewN | apply below_drew1) | exact HB.out))) : w.heap.size ≤ gb265)); clear HB; have HB := n0_; have BK265 := n1_; have GW265 := n2_; have GE265 := n3_; clear n0_ n1_ n2_ n3_; clear hb hbox hg; have hcz9_0 : w8.cell? ⟨gb265, 0, none⟩ = some (.int .i64 0) := (blk_cell BK265.out 0).trans rfl; have hcz9_1 : w8.cell? ⟨gb265, 1, none⟩ = some (.int .u32 0) := (blk_cell BK265.out 1).trans rfl; have hcz9_2 : w8.cell? ⟨gb265, 2, none⟩ = some (.slice none 0 0) := (blk_cell BK265.out 2).trans rfl; have hcz9_3 : w8.cell? ⟨gb265, 3, none⟩ = some (.slice none 0 0) := (blk_cell BK265.out 3).trans rfl; have hcz9_4 : w8.cell? ⟨gb265, 4, none⟩ = some (.slice none 0 0) := (blk_cell BK265.out 4).trans rfl; have hfz9_0 := blk_frozen BK265.out 0; have hfz9_1 := blk_frozen BK265.out 1; have hfz9_2 := blk_frozen BK265.out 2; have hfz9_3 := blk_frozen BK265.out 3; have hfz9_4 := blk_frozen BK265.out 4))
                  go_ret2
                  exact ⟨by first | rfl | (simp [errW_none, errW_some] <;> rfl) | (simp [*, errW_none, errW_some] <;> rfl), by repeat (first | (with_reducible first | exact HB.out | apply below_alloc | apply pw_below_drewN | apply below_drew1 | refine below_set ?_ GE265.out) | exact HB.out)⟩
                · rw [if_neg c7] at H
                  have c7b0 : decide (((rd_T43 l0 x10_1).f1) ≤ x4_1) = false := decide_eq_false c7
                  clear c7
                  have H' := Aside0.mk H
                  clear H
                  have p264 : 0 ≤ (x10_1 : Int) := of_decide_eq_true (by first | (with_reducible assumption) | assumption)
                  have q264 : x10_1 < (l0.length : Int) := of_decide_eq_true (by first | (with_reducible assumption) | assumption)
                  obtain ⟨ad264, A264_2, c264_2, A264_3, c264_3, A264_4, c264_4, e264, hx264_0, hx264_1, hx264_2, hx264_3, hx264_4, hl264_2, hi264_2, hl264_3, hi264_3, hl264_4, hi264_4⟩ := at_T43 HR0.out x10_1 p264 q264
                  cases e264
                  replace hx264_0 := (HB.out.cell (World.block_lt_of_cell? w _ hx264_0)).trans hx264_0
                  replace hx264_1 := (HB.out.cell (World.block_lt_of_cell? w _ hx264_1)).trans hx264_1
                  replace hx264_2 := (HB.out.cell (World.block_lt_of_cell? w _ hx264_2)).trans hx264_2
                  replace hx264_3 := (HB.out.cell (World.block_lt_of_cell? w _ hx264_3)).trans hx264_3
                  replace hx264_4 := (HB.out.cell (World.block_lt_of_cell? w _ hx264_4)).trans hx264_4
                  have HR264_2 := Aside0.mk hi264_2
                  have HC264_2 := Aside0.mk hl264_2
                  clear hi264_2 hl264_2
                  have HR264_3 := Aside0.mk hi264_3
                  have HC264_3 := Aside0.mk hl264_3
                  clear hi264_3 hl264_3
                  have HR264_4 := Aside0.mk hi264_4
                  have HC264_4 := Aside0.mk hl264_4
                  clear hi264_4 hl264_4
                  replace p264 := eq_true p264
                  replace q264 := eq_true q264
                  go_wp2_with (first | ((with_reducible refine gate_dst (N := 7) rfl ?_); refine box_event ?hg (N := 7) ?hd (cs := #[.int .i64 0, .int .u32 0, .slice none 0 0, .slice none 0 0, .slice none 0 0]) (t := 43) ?hr ?_; (case hd => rfl); (case hg => rfl); (case hr => first | (go_simp; done) | (go_simp; rfl)); intro gb265 hg w10 hbox hb; have n0_ := Aside0.mk (below_step (by repeat (first | (with_reducible first | exact HB.out | apply below_alloc | apply pw_below_drewN | apply below_drew1) | exact HB.out)) hb); have n1_ := Aside0.mk (hbox); have n2_ := Aside0.mk ((by rw [hg]; exact (below_size (by repeat (first | (with_reducible first | exact HB.out | apply below_alloc | apply pw_below_drewN | apply below_drew1) | exact HB.out))) : w.heap.size ≤ gb265)); have n3_ := Aside0.mk ((by rw [hg]; exact (below_size (by repeat (first | (with_reducible first | exact HB.out | apply below_alloc | apply pw_below_drewN | apply below_drew1) | exact HB.out))) : w.heap.size ≤ gb265)); clear HB; have HB := n0_; have BK265 := n1_; have GW265 := n2_; have GE265 := n3_; clear n0_ n1_ n2_ n3_; clear hb hbox hg; have hcz11_0 : w10.cell? ⟨gb265, 0, none⟩ = some (.int .i64 0) := (blk_cell BK265.out 0).trans rfl; have hcz11_1 : w10.cell? ⟨gb265, 1, none⟩ = some (.int .u32 0) := (blk_cell BK265.out 1).trans rfl; have hcz11_2 : w10.cell? ⟨gb265, 2, none⟩ = some (.slice none 0 0) := (blk_cell BK265.out 2).trans rfl; have hcz11_3 : w10.cell? ⟨gb265, 3, none⟩ = some (.slice none 0 0) := (blk_cell BK265.out 3).trans rfl; have hcz11_4 : w10.cell? ⟨gb265, 4, none⟩ = some (.slice none 0 0) := (blk_cell BK265.out 4).trans rfl; have hfz11_0 := blk_frozen BK265.out 0; have hfz11_1 := blk_frozen BK265.out 1; have hfz11_2 := blk_frozen BK265.out 2; have hfz11_3 := blk_frozen BK265.out 3; have hfz11_4 := blk_frozen BK265.out 4))
                  go_roundg k1
                  case measure => have := HK1.out; omega
                  case rel => exact ⟨((rd_T43 l0 x10_1).f1), (true), (wrap64 (x10_1 + 1)), (by first | rfl | (simp; done) | (simp [*]; done)), (by first | rfl | (simp; done) | (simp [*]; done)), (by first | rfl | (simp; done) | (simp [*]; done)), H', ⟨by have := HK1.out; omega⟩, ⟨by repeat (first | (with_reducible first | exact HB.out | apply below_alloc | apply pw_below_drewN | apply below_drew1 | refine below_set ?_ GE265.out) | exact HB.out)⟩⟩
              · replace c6 := Bool.eq_false_iff.mpr c6
                subst c6
                have H1 : (ledger_Rising.l0 k1 l0 ((rd_T43 l0 x10_1).f1) true l0 (l0.length : Int) (wrap64 (x10_1 + 1))) = some (r1, r2) := by rw [if_neg (show ¬ (false = true) by decide)] at H; exact H
                clear H
                have H := H1
                clear H1
                have H' := Aside0.mk H
                clear H
                have p264 : 0 ≤ (x10_1 : Int) := of_decide_eq_true (by first | (with_reducible assumption) | assumption)
                have q264 : x10_1 < (l0.length : Int) := of_decide_eq_true (by first | (with_reducible assumption) | assumption)
                obtain ⟨ad264, A264_2, c264_2, A264_3, c264_3, A264_4, c264_4, e264, hx264_0, hx264_1, hx264_2, hx264_3, hx264_4, hl264_2, hi264_2, hl264_3, hi264_3, hl264_4, hi264_4⟩ := at_T43 HR0.out x10_1 p264 q264
                cases e264
                replace hx264_0 := (HB.out.cell (World.block_lt_of_cell? w _ hx264_0)).trans hx264_0
                replace hx264_1 := (HB.out.cell (World.block_lt_of_cell? w _ hx264_1)).trans hx264_1
                replace hx264_2 := (HB.out.cell (World.block_lt_of_cell? w _ hx264_2)).trans hx264_2
                replace hx264_3 := (HB.out.cell (World.block_lt_of_cell? w _ hx264_3)).trans hx264_3
                replace hx264_4 := (HB.out.cell (World.block_lt_of_cell? w _ hx264_4)).trans hx264_4
                have HR264_2 := Aside0.mk hi264_2
                have HC264_2 := Aside0.mk hl264_2
                clear hi264_2 hl264_2
                have HR264_3 := Aside0.mk hi264_3
                have HC264_3 := Aside0.mk hl264_3
                clear hi264_3 hl264_3
                have HR264_4 := Aside0.mk hi264_4
                have HC264_4 := Aside0.mk hl264_4
                clear hi264_4 hl264_4
                replace p264 := eq_true p264
                replace q264 := eq_true q264
                go_wp2_with (first | ((with_reducible refine gate_dst (N := 7) rfl ?_); refine box_event ?hg (N := 7) ?hd (cs := #[.int .i64 0, .int .u32 0, .slice none 0 0, .slice none 0 0, .slice none 0 0]) (t := 43) ?hr ?_; (case hd => rfl); (case hg => rfl); (case hr => first | (go_simp; done) | (go_simp; rfl)); intro gb265 hg w12 hbox hb; have n0_ := Aside0.mk (below_step (by repeat (first | (with_reducible first | exact HB.out | apply below_alloc | apply pw_below_drewN | apply below_drew1) | exact HB.out)) hb); have n1_ := Aside0.mk (hbox); have n2_ := Aside0.mk ((by rw [hg]; exact (below_size (by repeat (first | (with_reducible first | exact HB.out | apply below_alloc | apply pw_below_drewN | apply below_drew1) | exact HB.out))) : w.heap.size ≤ gb265)); have n3_ := Aside0.mk ((by rw [hg]; exact (below_size (by repeat (first | (with_reducible first | exact HB.out | apply below_alloc | apply pw_below_drewN | apply below_drew1) | exact HB.out))) : w.heap.size ≤ gb265)); clear HB; have HB := n0_; have BK265 := n1_; have GW265 := n2_; have GE265 := n3_; clear n0_ n1_ n2_ n3_; clear hb hbox hg; have hcz13_0 : w12.cell? ⟨gb265, 0, none⟩ = some (.int .i64 0) := (blk_cell BK265.out 0).trans rfl; have hcz13_1 : w12.cell? ⟨gb265, 1, none⟩ = some (.int .u32 0) := (blk_cell BK265.out 1).trans rfl; have hcz13_2 : w12.cell? ⟨gb265, 2, none⟩ = some (.slice none 0 0) := (blk_cell BK265.out 2).trans rfl; have hcz13_3 : w12.cell? ⟨gb265, 3, none⟩ = some (.slice none 0 0) := (blk_cell BK265.out 3).trans rfl; have hcz13_4 : w12.cell? ⟨gb265, 4, none⟩ = some (.slice none 0 0) := (blk_cell BK265.out 4).trans rfl; have hfz13_0 := blk_frozen BK265.out 0; have hfz13_1 := blk_frozen BK265.out 1; have hfz13_2 := blk_frozen BK265.out 2; have hfz13_3 := blk_frozen BK265.out 3; have hfz13_4 := blk_frozen BK265.out 4))
                go_roundg k1
                case measure => have := HK1.out; omega
                case rel => exact ⟨((rd_T43 l0 x10_1).f1), (true), (wrap64 (x10_1 + 1)), (by first | rfl | (simp; done) | (simp [*]; done)), (by first | rfl | (simp; done) | (simp [*]; done)), (by first | rfl | (simp; done) | (simp [*]; done)), H', ⟨by have := HK1.out; omega⟩, ⟨by repeat (first | (with_reducible first | exact HB.out | apply below_alloc | apply pw_below_drewN | apply below_drew1 | refine below_set ?_ GE265.out) | exact HB.out)⟩⟩
            · rw [if_neg c5] at H
              have c5b0 : (((rd_T43 l0 x10_1).f0) == 1) = false := beq_eq_false_iff_ne.mpr c5
              have c5b1 : (((rd_T43 l0 x10_1).f0) != 1) = true := bne_iff_ne.mpr c5
              have H' := Aside0.mk H
              clear H
              have p264 : 0 ≤ (x10_1 : Int) := of_decide_eq_true (by first | (with_reducible assumption) | assumption)
              have q264 : x10_1 < (l0.length : Int) := of_decide_eq_true (by first | (with_reducible assumption) | assumption)
              obtain ⟨ad264, A264_2, c264_2, A264_3, c264_3, A264_4, c264_4, e264, hx264_0, hx264_1, hx264_2, hx264_3, hx264_4, hl264_2, hi264_2, hl264_3, hi264_3, hl264_4, hi264_4⟩ := at_T43 HR0.out x10_1 p264 q264
              cases e264
              replace hx264_0 := (HB.out.cell (World.block_lt_of_cell? w _ hx264_0)).trans hx264_0
              replace hx264_1 := (HB.out.cell (World.block_lt_of_cell? w _ hx264_1)).trans hx264_1
              replace hx264_2 := (HB.out.cell (World.block_lt_of_cell? w _ hx264_2)).trans hx264_2
              replace hx264_3 := (HB.out.cell (World.block_lt_of_cell? w _ hx264_3)).trans hx264_3
              replace hx264_4 := (HB.out.cell (World.block_lt_of_cell? w _ hx264_4)).trans hx264_4
              have HR264_2 := Aside0.mk hi264_2
              have HC264_2 := Aside0.mk hl264_2
              clear hi264_2 hl264_2
              have HR264_3 := Aside0.mk hi264_3
              have HC264_3 := Aside0.mk hl264_3
              clear hi264_3 hl264_3
              have HR264_4 := Aside0.mk hi264_4
              have HC264_4 := Aside0.mk hl264_4
              clear hi264_4 hl264_4
              replace p264 := eq_true p264
              replace q264 := eq_true q264
              go_wp2_with (first | ((with_reducible refine gate_dst (N := 7) rfl ?_); refine box_event ?hg (N := 7) ?hd (cs := #[.int .i64 0, .int .u32 0, .slice none 0 0, .slice none 0 0, .slice none 0 0]) (t := 43) ?hr ?_; (case hd => rfl); (case hg => rfl); (case hr => first | (go_simp; done) | (go_simp; rfl)); intro gb265 hg w14 hbox hb; have n0_ := Aside0.mk (below_step (by repeat (first | (with_reducible first | exact HB.out | apply below_alloc | apply pw_below_drewN | apply below_drew1) | exact HB.out)) hb); have n1_ := Aside0.mk (hbox); have n2_ := Aside0.mk ((by rw [hg]; exact (below_size (by repeat (first | (with_reducible first | exact HB.out | apply below_alloc | apply pw_below_drewN | apply below_drew1) | exact HB.out))) : w.heap.size ≤ gb265)); have n3_ := Aside0.mk ((by rw [hg]; exact (below_size (by repeat (first | (with_reducible first | exact HB.out | apply below_alloc | apply pw_below_drewN | apply below_drew1) | exact HB.out))) : w.heap.size ≤ gb265)); clear HB; have HB := n0_; have BK265 := n1_; have GW265 := n2_; have GE265 := n3_; clear n0_ n1_ n2_ n3_; clear hb hbox hg; have hcz15_0 : w14.cell? ⟨gb265, 0, none⟩ = some (.int .i64 0) := (blk_cell BK265.out 0).trans rfl; have hcz15_1 : w14.cell? ⟨gb265, 1, none⟩ = some (.int .u32 0) := (blk_cell BK265.out 1).trans rfl; have hcz15_2 : w14.cell? ⟨gb265, 2, none⟩ = some (.slice none 0 0) := (blk_cell BK265.out 2).trans rfl; have hcz15_3 : w14.cell? ⟨gb265, 3, none⟩ = some (.slice none 0 0) := (blk_cell BK265.out 3).trans rfl; have hcz15_4 : w14.cell? ⟨gb265, 4, none⟩ = some (.slice none 0 0) := (blk_cell BK265.out 4).trans rfl; have hfz15_0 := blk_frozen BK265.out 0; have hfz15_1 := blk_frozen BK265.out 1; have hfz15_2 := blk_frozen BK265.out 2; have hfz15_3 := blk_frozen BK265.out 3; have hfz15_4 := blk_frozen BK265.out 4))
              go_roundg k1
              case measure => have := HK1.out; omega
              case rel => exact ⟨(x4_1), (x5_1), (wrap64 (x10_1 + 1)), (by first | rfl | (simp; done) | (simp [*]; done)), (by first | rfl | (simp; done) | (simp [*]; done)), (by first | rfl | (simp; done) | (simp [*]; done)), H', ⟨by have := HK1.out; omega⟩, ⟨by repeat (first | (with_reducible first | exact HB.out | apply below_alloc | apply pw_below_drewN | apply below_drew1 | refine below_set ?_ GE265.out) | exact HB.out)⟩⟩
          · rw [if_neg c4] at H
            exact absurd H (by simp)
        · rw [if_neg c3] at H
          exact absurd H (by simp)
      · rw [if_neg c2] at H
        have c2b0 : decide (x10_1 < (l0.length : Int)) = false := decide_eq_false c2
        clear c2
        simp only [Option.some.injEq, Prod.mk.injEq] at H
        obtain ⟨rfl, rfl⟩ := H
        go_wp2
        go_ret2
        exact ⟨by first | rfl | (simp [errW_none, errW_some] <;> rfl) | (simp [*, errW_none, errW_some] <;> rfl), by repeat (first | (with_reducible first | exact HB.out | apply below_alloc | apply pw_below_drewN | apply below_drew1) | exact HB.out)⟩
end Go.Proofs.YtfaelejeihmgcaaDoor.Lgx
end

section
namespace Go.Proofs.YtfaelejeihmgcaaDoor.Lgx.Rn
open Go.RowKit Go.Proofs.YtfaelejeihmgcaaDoorW.PrintWords Go.Proofs.YtfaelejeihmgcaaDoorW.PrintLast
theorem get_lt (t : ByteArray) (i : Nat) (h : i < t.size) : t.get! i = t[i] := by
  cases t with
  | mk d => exact getElem!_pos d i h
theorem get_ge (t : ByteArray) (i : Nat) (h : ¬ i < t.size) : t.get! i = default := by
  cases t with
  | mk d => exact getElem!_neg d i h
theorem bt_get (t : ByteArray) (j : Int) : bt t j = ((t.get! j.toNat).toNat : Int) := by
  unfold bt
  split
  · rename_i h
    rw [get_lt t _ h]
  · rename_i h
    rw [get_ge t _ h]
    rfl
set_option maxRecDepth 100000 in
theorem and31 : ∀ x : Fin 256, Go.bits .and .u8 ((x.val : Nat) : Int) 31 = ((x.val % 32 : Nat) : Int) := by decide
set_option maxRecDepth 100000 in
theorem and15 : ∀ x : Fin 256, Go.bits .and .u8 ((x.val : Nat) : Int) 15 = ((x.val % 16 : Nat) : Int) := by decide
set_option maxRecDepth 100000 in
theorem and7 : ∀ x : Fin 256, Go.bits .and .u8 ((x.val : Nat) : Int) 7 = ((x.val % 8 : Nat) : Int) := by decide
set_option maxRecDepth 100000 in
theorem and63 : ∀ x : Fin 256, Go.bits .and .u8 ((x.val : Nat) : Int) 63 = ((x.val % 64 : Nat) : Int) := by decide
theorem follows_f (s : ByteArray) (i : Nat) (lo hi : Int) : cachepotref1_follows.f s (i : Int) lo hi = some (decide (i < s.size ∧ lo ≤ ((s.get! i).toNat : Int) ∧ ((s.get! i).toNat : Int) ≤ hi)) := by
  unfold cachepotref1_follows.f
  have e : bt s (i : Int) = ((s.get! i).toNat : Int) := by rw [bt_get]; rfl
  rw [e]
  by_cases h1 : i < s.size
  · rw [if_pos (by omega), if_pos (by omega)]
    by_cases h2 : ((s.get! i).toNat : Int) ≥ lo
    · rw [if_pos h2]
      congr 1
      rw [decide_eq_decide]
      exact ⟨fun h => ⟨h1, h2, h⟩, fun h => h.2.2⟩
    · rw [if_neg h2]
      congr 1
      rw [eq_comm, decide_eq_false_iff_not]
      exact fun h => h2 h.2.1
  · rw [if_neg (by omega)]
    congr 1
    rw [eq_comm, decide_eq_false_iff_not]
    exact fun h => h1 h.1
theorem w64 (x : Int) (h0 : -9223372036854775808 ≤ x) (h1 : x ≤ 9223372036854775807) : wrap64 x = x := by unfold wrap64; omega
/-- the shape of the reference's Rune, in numbers: n bytes are left, b0 .. b3 stand there, L and H bound the second -/
def refN (n b0 b1 b2 b3 L H : Nat) : Nat × Nat :=
  if b0 < 128 then (b0, 1)
  else if (194 ≤ b0 ∧ b0 ≤ 223) ∧ (1 < n ∧ 128 ≤ b1 ∧ b1 ≤ 191) then (b0 % 32 * 64 + b1 % 64, 2)
  else if (224 ≤ b0 ∧ b0 ≤ 239) ∧ (1 < n ∧ L ≤ b1 ∧ b1 ≤ H) ∧ (2 < n ∧ 128 ≤ b2 ∧ b2 ≤ 191) then (b0 % 16 * 4096 + b1 % 64 * 64 + b2 % 64, 3)
  else if (240 ≤ b0 ∧ b0 ≤ 244) ∧ (1 < n ∧ L ≤ b1 ∧ b1 ≤ H) ∧ (2 < n ∧ 128 ≤ b2 ∧ b2 ≤ 191) ∧ (3 < n ∧ 128 ≤ b3 ∧ b3 ≤ 191) then (b0 % 8 * 262144 + b1 % 64 * 4096 + b2 % 64 * 64 + b3 % 64, 4)
  else (65533, 1)
def LowOk (b0 L : Nat) : Prop := (b0 = 224 ∧ L = 160) ∨ (b0 = 240 ∧ L = 144) ∨ (b0 ≠ 224 ∧ b0 ≠ 240 ∧ L = 128)
def HighOk (b0 H : Nat) : Prop := (b0 = 237 ∧ H = 159) ∨ (b0 = 244 ∧ H = 143) ∨ (b0 ≠ 237 ∧ b0 ≠ 244 ∧ H = 191)
set_option maxHeartbeats 4000000 in
set_option maxRecDepth 100000 in
theorem refN_eq (n b0 b1 b2 b3 L H : Nat) (h0 : b0 < 256) (h1 : b1 < 256) (h2 : b2 < 256) (h3 : b3 < 256) (hL : LowOk b0 L) (hH : HighOk b0 H) : refN n b0 b1 b2 b3 L H = Lib.decodeN n b0 b1 b2 b3 := by
  unfold refN Lib.decodeN
  unfold LowOk at hL
  unfold HighOk at hH
  by_cases c0 : b0 < 128
  · rw [if_pos c0, if_pos c0]
  rw [if_neg c0, if_neg c0]
  by_cases c1 : (194 ≤ b0 ∧ b0 ≤ 223) ∧ (1 < n ∧ 128 ≤ b1 ∧ b1 ≤ 191)
  · rw [if_pos c1, if_pos (by omega), if_pos (by omega)]
  rw [if_neg c1]
  by_cases d1 : b0 / 32 = 6 ∧ (1 < n ∧ b1 / 64 = 2)
  · rw [if_pos d1, if_neg (by omega), if_neg (by omega), if_neg (by omega)]
  rw [if_neg d1]
  by_cases d2 : b0 / 16 = 14 ∧ (1 < n ∧ b1 / 64 = 2) ∧ (2 < n ∧ b2 / 64 = 2)
  · rw [if_pos d2]
    by_cases c2 : (224 ≤ b0 ∧ b0 ≤ 239) ∧ (1 < n ∧ L ≤ b1 ∧ b1 ≤ H) ∧ (2 < n ∧ 128 ≤ b2 ∧ b2 ≤ 191)
    · rw [if_pos c2, if_pos (by omega)]
    · rw [if_neg c2, if_neg (by omega), if_neg (by omega)]
  rw [if_neg d2, if_neg (by omega)]
  by_cases d3 : b0 / 8 = 30 ∧ (1 < n ∧ b1 / 64 = 2) ∧ (2 < n ∧ b2 / 64 = 2) ∧ (3 < n ∧ b3 / 64 = 2)
  · rw [if_pos d3]
    by_cases c3 : (240 ≤ b0 ∧ b0 ≤ 244) ∧ (1 < n ∧ L ≤ b1 ∧ b1 ≤ H) ∧ (2 < n ∧ 128 ≤ b2 ∧ b2 ≤ 191) ∧ (3 < n ∧ 128 ≤ b3 ∧ b3 ≤ 191)
    · rw [if_pos c3, if_pos (by omega)]
    · rw [if_neg c3, if_neg (by omega)]
  rw [if_neg d3, if_neg (by omega)]
theorem Rune_j0 (k : Nat) (s : ByteArray) (x : Int) (b0 : Nat) : ∃ L H : Nat, LowOk b0 L ∧ HighOk b0 H ∧ (224 ≤ b0 → cachepotref1_Rune.j0 (k + 1) s x (b0 : Int) = cachepotref1_Rune.j1 k s x (b0 : Int) (L : Int) (H : Int)) ∧ (b0 < 224 → cachepotref1_Rune.j0 (k + 1) s x (b0 : Int) = cachepotref1_Rune.j1 k s x (b0 : Int) 128 191) := by
  rw [cachepotref1_Rune.j0]
  by_cases x1 : b0 = 224
  · subst x1; exact ⟨160, 191, by unfold LowOk; omega, by unfold HighOk; omega, fun _ => rfl, fun h => by omega⟩
  by_cases x2 : b0 = 237
  · subst x2; exact ⟨128, 159, by unfold LowOk; omega, by unfold HighOk; omega, fun _ => rfl, fun h => by omega⟩
  by_cases x3 : b0 = 240
  · subst x3; exact ⟨144, 191, by unfold LowOk; omega, by unfold HighOk; omega, fun _ => rfl, fun h => by omega⟩
  by_cases x4 : b0 = 244
  · subst x4; exact ⟨128, 143, by unfold LowOk; omega, by unfold HighOk; omega, fun _ => rfl, fun h => by omega⟩
  rw [if_neg (by omega), if_neg (by omega), if_neg (by omega), if_neg (by omega)]
  exact ⟨128, 191, by unfold LowOk; omega, by unfold HighOk; omega, fun _ => rfl, fun _ => rfl⟩
def refY (n b0 b1 b2 b3 L H y32 y16 y8 y1 y2 y3 : Nat) : Nat × Nat :=
  if b0 < 128 then (b0, 1)
  else if (194 ≤ b0 ∧ b0 ≤ 223) ∧ (1 < n ∧ 128 ≤ b1 ∧ b1 ≤ 191) then (y32 * 64 + y1, 2)
  else if (224 ≤ b0 ∧ b0 ≤ 239) ∧ (1 < n ∧ L ≤ b1 ∧ b1 ≤ H) ∧ (2 < n ∧ 128 ≤ b2 ∧ b2 ≤ 191) then (y16 * 4096 + y1 * 64 + y2, 3)
  else if (240 ≤ b0 ∧ b0 ≤ 244) ∧ (1 < n ∧ L ≤ b1 ∧ b1 ≤ H) ∧ (2 < n ∧ 128 ≤ b2 ∧ b2 ≤ 191) ∧ (3 < n ∧ 128 ≤ b3 ∧ b3 ≤ 191) then (y8 * 262144 + y1 * 4096 + y2 * 64 + y3, 4)
  else (65533, 1)
set_option maxHeartbeats 4000000 in
set_option maxRecDepth 100000 in
theorem Rune_core (k : Nat) (s : ByteArray) (i : Nat) (hi : i < s.size) (hs : s.size ≤ 1099511627776) (b0 b1 b2 b3 L H y32 y16 y8 y1 y2 y3 : Nat)
    (e0 : Aside0 (bt s (i : Int) = (b0 : Int))) (e1 : Aside0 (bt s ((i + 1 : Nat) : Int) = (b1 : Int))) (e2 : Aside0 (bt s ((i + 2 : Nat) : Int) = (b2 : Int))) (e3 : Aside0 (bt s ((i + 3 : Nat) : Int) = (b3 : Int)))
    (f1 : ∀ lo hi : Int, cachepotref1_follows.f s ((i + 1 : Nat) : Int) lo hi = some (decide (i + 1 < s.size ∧ lo ≤ (b1 : Int) ∧ (b1 : Int) ≤ hi)))
    (f2 : ∀ lo hi : Int, cachepotref1_follows.f s ((i + 2 : Nat) : Int) lo hi = some (decide (i + 2 < s.size ∧ lo ≤ (b2 : Int) ∧ (b2 : Int) ≤ hi)))
    (f3 : ∀ lo hi : Int, cachepotref1_follows.f s ((i + 3 : Nat) : Int) lo hi = some (decide (i + 3 < s.size ∧ lo ≤ (b3 : Int) ∧ (b3 : Int) ≤ hi)))
    (hj0 : Aside0 (224 ≤ b0 → cachepotref1_Rune.j0 (k + 3) s (i : Int) (b0 : Int) = cachepotref1_Rune.j1 (k + 2) s (i : Int) (b0 : Int) (L : Int) (H : Int)))
    (hj0' : Aside0 (b0 < 224 → cachepotref1_Rune.j0 (k + 3) s (i : Int) (b0 : Int) = cachepotref1_Rune.j1 (k + 2) s (i : Int) (b0 : Int) 128 191))
    (a31 : Aside0 (Go.bits .and .u8 (b0 : Int) 31 = (y32 : Int))) (a15 : Aside0 (Go.bits .and .u8 (b0 : Int) 15 = (y16 : Int))) (a7 : Aside0 (Go.bits .and .u8 (b0 : Int) 7 = (y8 : Int)))
    (m1 : Aside0 (Go.bits .and .u8 (b1 : Int) 63 = (y1 : Int))) (m2 : Aside0 (Go.bits .and .u8 (b2 : Int) 63 = (y2 : Int))) (m3 : Aside0 (Go.bits .and .u8 (b3 : Int) 63 = (y3 : Int)))
    (h0 : b0 < 256) (q0 : y32 < 32) (q1 : y16 < 16) (q2 : y8 < 8) (q3 : y1 < 64) (q4 : y2 < 64) (q5 : y3 < 64) :
    cachepotref1_Rune.f (k + 3) s (i : Int) = some (((refY (s.size - i) b0 b1 b2 b3 L H y32 y16 y8 y1 y2 y3).1 : Int), ((refY (s.size - i) b0 b1 b2 b3 L H y32 y16 y8 y1 y2 y3).2 : Int)) := by
  have w1 : Aside0 (wrap64 ((i : Int) + 1) = ((i + 1 : Nat) : Int)) := ⟨by
    have e := w64 ((i : Int) + 1) (by omega) (by omega)
    rw [e]
    rfl⟩
  have w2 : Aside0 (wrap64 ((i : Int) + 2) = ((i + 2 : Nat) : Int)) := ⟨by
    have e := w64 ((i : Int) + 2) (by omega) (by omega)
    rw [e]
    rfl⟩
  have w3 : Aside0 (wrap64 ((i : Int) + 3) = ((i + 3 : Nat) : Int)) := ⟨by
    have e := w64 ((i : Int) + 3) (by omega) (by omega)
    rw [e]
    rfl⟩
  unfold cachepotref1_Rune.f
  rw [if_pos (by omega), if_pos (by omega), e0.out]
  by_cases c0 : b0 < 128
  · rw [if_pos (by omega), w64 (b0 : Int) (by omega) (by omega), refY, if_pos c0]
    rfl
  rw [if_neg (by omega)]
  -- a lead byte of three or four, or none
  have hno : ∀ x l h : Int, b0 < 240 → cachepotref1_Rune.j2 (k + 1) s x (b0 : Int) l h false = some (65533, 1) := by
    intro x l h hb
    rw [cachepotref1_Rune.j2, if_neg (by simp), if_neg (by omega)]
  have hj : ¬ ((194 ≤ b0 ∧ b0 ≤ 223) ∧ (1 < s.size - i ∧ 128 ≤ b1 ∧ b1 ≤ 191)) → cachepotref1_Rune.j0 (k + 3) s (i : Int) (b0 : Int) = some (((refY (s.size - i) b0 b1 b2 b3 L H y32 y16 y8 y1 y2 y3).1 : Int), ((refY (s.size - i) b0 b1 b2 b3 L H y32 y16 y8 y1 y2 y3).2 : Int)) := by
    intro c1
    rw [refY, if_neg c0, if_neg c1]
    by_cases x0 : b0 < 224
    · rw [hj0'.out x0, cachepotref1_Rune.j1, if_neg (by omega), hno _ _ _ (by omega), if_neg (by omega), if_neg (by omega)]
      rfl
    rw [hj0.out (by omega), cachepotref1_Rune.j1, if_pos (by omega)]
    by_cases x1 : b0 ≤ 239
    · rw [if_pos (by omega), w1.out, f1, w2.out]
      simp only [Option.bind_some, decide_eq_true_eq]
      by_cases z1 : i + 1 < s.size ∧ ((L : Int) ≤ (b1 : Int) ∧ (b1 : Int) ≤ (H : Int))
      · rw [if_pos z1, f2]
        simp only [Option.bind_some]
        by_cases z2 : i + 2 < s.size ∧ ((128 : Int) ≤ (b2 : Int) ∧ (b2 : Int) ≤ 191)
        · rw [decide_eq_true z2, cachepotref1_Rune.j2, if_pos rfl, w1.out, w2.out, if_pos (by omega), if_pos (by omega), if_pos (by omega), if_pos (by omega), e1.out, e2.out, a15.out, m1.out, m2.out, if_pos (by omega)]
          simp (disch := omega) only [w64]
          simp only [Option.some.injEq, Prod.mk.injEq]
          omega
        · rw [decide_eq_false z2, hno _ _ _ (by omega), if_neg (by omega), if_neg (by omega)]
          rfl
      · rw [if_neg z1, hno _ _ _ (by omega), if_neg (by omega), if_neg (by omega)]
        rfl
    · rw [if_neg (by omega), cachepotref1_Rune.j2, if_neg (by simp), if_pos (by omega), if_neg (show ¬ ((224 ≤ b0 ∧ b0 ≤ 239) ∧ _) from fun h => x1 h.1.2)]
      by_cases x2 : b0 ≤ 244
      · rw [if_pos (by omega), w1.out, f1]
        simp only [Option.bind_some, decide_eq_true_eq]
        by_cases z1 : i + 1 < s.size ∧ ((L : Int) ≤ (b1 : Int) ∧ (b1 : Int) ≤ (H : Int))
        · rw [if_pos z1, w2.out, f2]
          simp only [Option.bind_some, decide_eq_true_eq]
          by_cases z2 : i + 2 < s.size ∧ ((128 : Int) ≤ (b2 : Int) ∧ (b2 : Int) ≤ 191)
          · rw [if_pos z2, w3.out, f3]
            simp only [Option.bind_some, decide_eq_true_eq]
            by_cases z3 : i + 3 < s.size ∧ ((128 : Int) ≤ (b3 : Int) ∧ (b3 : Int) ≤ 191)
            · rw [if_pos z3, if_pos (by omega), if_pos (by omega), if_pos (by omega), if_pos (by omega), if_pos (by omega), if_pos (by omega), e1.out, e2.out, e3.out, a7.out, m1.out, m2.out, m3.out, if_pos (by omega)]
              simp (disch := omega) only [w64]
              simp only [Option.some.injEq, Prod.mk.injEq]
              omega
            · rw [if_neg z3, if_neg (by omega)]; rfl
          · rw [if_neg z2, if_neg (by omega)]; rfl
        · rw [if_neg z1, if_neg (by omega)]; rfl
      · rw [if_neg (by omega), if_neg (by omega)]; rfl
  by_cases c1 : (194 ≤ b0 ∧ b0 ≤ 223) ∧ (1 < s.size - i ∧ 128 ≤ b1 ∧ b1 ≤ 191)
  · rw [if_pos (by omega), if_pos (by omega), w1.out, f1]
    simp only [Option.bind_some, decide_eq_true_eq]
    rw [if_pos (by omega), if_pos (by omega), if_pos (by omega), e1.out, a31.out, m1.out, refY, if_neg c0, if_pos c1]
    simp (disch := omega) only [w64]
    simp only [Option.some.injEq, Prod.mk.injEq]
    omega
  · have hj' := hj c1
    by_cases x1 : 194 ≤ b0
    · rw [if_pos (by omega)]
      by_cases x2 : b0 ≤ 223
      · rw [if_pos (by omega), w1.out, f1]
        simp only [Option.bind_some, decide_eq_true_eq]
        rw [if_neg (by omega)]
        exact hj'
      · rw [if_neg (by omega)]; exact hj'
    · rw [if_neg (by omega)]; exact hj'
theorem Rune_f (k : Nat) (s : ByteArray) (i : Nat) (hi : i < s.size) (hs : s.size ≤ 1099511627776) :
    cachepotref1_Rune.f (k + 3) s (i : Int) = some (((Utf8.decode s i).1 : Int), ((Utf8.decode s i).2 : Int)) := by
  obtain ⟨L, H, hL, hH, hj0, hj0'⟩ := Rune_j0 (k + 2) s (i : Int) (s.get! i).toNat
  rw [Lib.decode_at, ← refN_eq _ _ _ _ _ L H (s.get! i).toNat_lt (s.get! (i + 1)).toNat_lt (s.get! (i + 2)).toNat_lt (s.get! (i + 3)).toNat_lt hL hH]
  exact Rune_core k s i hi hs _ _ _ _ L H _ _ _ _ _ _ ⟨by rw [bt_get]; rfl⟩ ⟨by rw [bt_get]; rfl⟩ ⟨by rw [bt_get]; rfl⟩ ⟨by rw [bt_get]; rfl⟩
    (follows_f s (i + 1)) (follows_f s (i + 2)) (follows_f s (i + 3)) ⟨hj0⟩ ⟨hj0'⟩ ⟨and31 ⟨_, (s.get! i).toNat_lt⟩⟩ ⟨and15 ⟨_, (s.get! i).toNat_lt⟩⟩ ⟨and7 ⟨_, (s.get! i).toNat_lt⟩⟩
    ⟨and63 ⟨_, (s.get! (i + 1)).toNat_lt⟩⟩ ⟨and63 ⟨_, (s.get! (i + 2)).toNat_lt⟩⟩ ⟨and63 ⟨_, (s.get! (i + 3)).toNat_lt⟩⟩ (s.get! i).toNat_lt
    (Nat.mod_lt _ (by decide)) (Nat.mod_lt _ (by decide)) (Nat.mod_lt _ (by decide)) (Nat.mod_lt _ (by decide)) (Nat.mod_lt _ (by decide)) (Nat.mod_lt _ (by decide))
theorem runes_l0 (s : ByteArray) (hs : s.size ≤ 1099511627776) : ∀ (d k i : Nat) (x y : List Int), s.size - i = d → i ≤ s.size → d + 3 < k → x.length ≤ i → y.length ≤ i → ∃ r, cachepotref1_Runes.l0 k s x y (i : Int) = some r ∧ r.1.length ≤ s.size := by
  intro d
  induction d using Nat.strongRecOn with
  | ind d ih =>
    intro k i x y hd hi hk hx hy
    obtain ⟨k, rfl⟩ : ∃ m, k = m + 3 + 1 := ⟨k - 4, by omega⟩
    simp only [cachepotref1_Runes.l0]
    by_cases h : i < s.size
    · have hp : 0 < (Utf8.decode s i).2 ∧ i + (Utf8.decode s i).2 ≤ s.size := ⟨Wd.width_pos s i, Wd.width_le s i h⟩
      rw [if_pos (by omega), Rune_f k s i h hs]
      simp only [Option.bind_some]
      rw [if_pos (by omega), if_pos (by omega), w64 _ (by omega) (by omega)]
      have e : (i : Int) + ((Utf8.decode s i).2 : Int) = ((i + (Utf8.decode s i).2 : Nat) : Int) := by omega
      rw [e]
      exact ih (s.size - (i + (Utf8.decode s i).2)) (by omega) (k + 3) (i + (Utf8.decode s i).2) _ _ rfl hp.2 (by omega) (by simp; omega) (by simp; omega)
    · rw [if_neg (by omega)]
      exact ⟨_, rfl, by show x.length ≤ _; omega⟩
theorem runes_f (s : ByteArray) (hs : s.size ≤ 1099511627776) (k : Nat) (hk : s.size + 3 < k) : ∃ r, cachepotref1_Runes.f k s = some r ∧ r.1.length ≤ s.size :=
  runes_l0 s hs s.size k 0 [] [] (by omega) (by omega) hk (by simp) (by simp)
theorem common_l0 (x y : List Int) (hb : x.length ≤ 1099511627776) : ∀ (d k i : Nat), x.length - i = d → i ≤ x.length → i ≤ y.length → d < k → ∃ r : Nat, cachepotref1_KeyCommon.l0 k x y (i : Int) = some (r : Int) ∧ r ≤ x.length ∧ r ≤ y.length := by
  intro d
  induction d with
  | zero =>
    intro k i hd hi hy hk
    obtain ⟨k, rfl⟩ : ∃ m, k = m + 1 := ⟨k - 1, by omega⟩
    simp only [cachepotref1_KeyCommon.l0]
    rw [if_neg (by omega)]
    exact ⟨i, rfl, hi, hy⟩
  | succ d ih =>
    intro k i hd hi hy hk
    obtain ⟨k, rfl⟩ : ∃ m, k = m + 1 := ⟨k - 1, by omega⟩
    simp only [cachepotref1_KeyCommon.l0]
    rw [if_pos (by omega)]
    by_cases h : i < y.length
    · rw [if_pos (by omega), if_pos (by omega), w64 _ (by omega) (by omega)]
      split
      · exact ih k (i + 1) (by omega) (by omega) (by omega) (by omega)
      · exact ⟨i, rfl, hi, hy⟩
    · rw [if_neg (by omega)]
      exact ⟨i, rfl, hi, hy⟩
theorem cmp_f (a b : ByteArray) (ha : a.size ≤ 1099511627776) (hb : b.size ≤ 1099511627776) (k : Nat) (hk : a.size + b.size + 10 ≤ k) : ∃ r, cachepotref1_KeyCmp.f k a b = some r := by
  obtain ⟨x, hx, hxl⟩ := runes_f a ha k (by omega)
  obtain ⟨y, hy, _⟩ := runes_f b hb k (by omega)
  obtain ⟨n, hn, h1, h2⟩ := common_l0 x.1 y.1 (by omega) x.1.length k 0 (by omega) (by omega) (by omega) (by omega)
  have hc : cachepotref1_KeyCommon.f k a b = some (n : Int) := by
    unfold cachepotref1_KeyCommon.f
    rw [hx, hy]
    exact hn
  unfold cachepotref1_KeyCmp.f
  rw [hx, hy, hc]
  simp only [Option.bind_some]
  obtain ⟨k, rfl⟩ : ∃ m, k = m + 1 := ⟨k - 1, by omega⟩
  split
  · rename_i h
    simp only [cachepotref1_KeyCmp.j0]
    split
    · exact ⟨_, rfl⟩
    · first | exact ⟨_, rfl⟩ | (rw [if_pos h]; exact ⟨_, rfl⟩)
  · rename_i h
    simp only [cachepotref1_KeyCmp.j0]
    rw [if_neg (by decide), if_neg h]
    split
    · exact ⟨_, rfl⟩
    · rename_i h'
      rw [if_pos (by omega), if_pos (by omega), if_pos (by omega)]
      split <;> exact ⟨_, rfl⟩
/-- does a text stand ahead of another? -/
def aheadB (a b : ByteArray) : Bool := (cachepotref1_Ahead.f (a.size + b.size + 10) a b).getD false
theorem ahead_f (a b : ByteArray) (ha : a.size ≤ 1099511627776) (hb : b.size ≤ 1099511627776) : cachepotref1_Ahead.f (a.size + b.size + 10) a b = some (aheadB a b) := by
  have h : ∃ r, cachepotref1_Ahead.f (a.size + b.size + 10) a b = some r := by
    obtain ⟨r, hr⟩ := cmp_f a b ha hb _ (Nat.le_refl _)
    unfold cachepotref1_Ahead.f
    rw [hr]
    simp only [Option.bind_some]
    repeat' split
    all_goals exact ⟨_, rfl⟩
  obtain ⟨r, hr⟩ := h
  unfold aheadB
  rw [hr]
  rfl
end Go.Proofs.YtfaelejeihmgcaaDoor.Lgx.Rn
end

section
namespace Go.Proofs.YtfaelejeihmgcaaDoor.Lgx
open Go.RowKit Go.Proofs.YtfaelejeihmgcaaDoorW.PrintWords Go.Proofs.YtfaelejeihmgcaaDoorW.PrintLast
open Rn (aheadB ahead_f)
/-- how many stand ahead -/
def placeF (key : ByteArray) (rest : List S98) : Nat := (rest.takeWhile fun y => aheadB y.f0 key).length
def insF (seq : Int) (x : S101) (rest : List S98) : List S98 := rest.take (placeF x.f0 rest) ++ [⟨x.f0, true, x.f2, seq⟩] ++ rest.drop (placeF x.f0 rest)
def commit1 (seq : Int) (x : S101) (L : List S98) : List S98 := if x.f1 = true then withoutF x.f0 L else insF seq x (withoutF x.f0 L)
def commitF (seq : Int) : List S101 → List S98 → List S98
  | [], L => L
  | x :: l, L => commitF seq l (commit1 seq x L)
theorem commitF_snoc (seq : Int) (l : List S101) (x : S101) : ∀ L, commitF seq (l ++ [x]) L = commit1 seq x (commitF seq l L) := by
  induction l with
  | nil => intro L; rfl
  | cons y l ih => intro L; exact ih _
theorem placeF_le (key : ByteArray) (rest : List S98) : placeF key rest ≤ rest.length := (List.takeWhile_sublist _).length_le
theorem insF_len (seq : Int) (x : S101) (rest : List S98) : (insF seq x rest).length = rest.length + 1 := by
  have := placeF_le x.f0 rest
  simp [insF]
  omega
theorem commit1_len (seq : Int) (x : S101) (L : List S98) : (commit1 seq x L).length ≤ L.length + 1 := by
  have := withoutF_len x.f0 L
  unfold commit1
  split
  · omega
  · rw [insF_len]; omega
theorem commitF_len (seq : Int) (l : List S101) : ∀ L : List S98, (commitF seq l L).length ≤ L.length + l.length := by
  induction l with
  | nil => intro L; exact Nat.le_refl _
  | cons x l ih => intro L; have := ih (commit1 seq x L); have := commit1_len seq x L; simp [commitF]; omega
/-- the place, as_ the loop finds it -/
theorem place_go (key : ByteArray) : ∀ (rest : List S98) (j : Nat), (∀ i (h : i < rest.length), i < j → aheadB rest[i].f0 key = true) → j ≤ rest.length → (j = rest.length ∨ ∃ h : j < rest.length, aheadB rest[j].f0 key = false) → placeF key rest = j
  | [], j, _, hj, _ => by
    have : j = 0 := by simpa using hj
    subst this
    rfl
  | y :: rest, 0, _, _, h => by
    rcases h with h | ⟨_, h⟩
    · simp at h
    · simp only [List.getElem_cons_zero] at h
      simp [placeF, h]
  | y :: rest, j + 1, ha, hj, h => by
    have h0 := ha 0 (by simp) (by omega)
    simp only [List.getElem_cons_zero] at h0
    have ih := place_go key rest j (fun i hi hij => by have := ha (i + 1) (by simp; omega) (by omega); simpa using this) (by simpa using hj) (by
      rcases h with h | ⟨h1, h2⟩
      · left; simpa using h
      · right; exact ⟨by simpa using h1, by simpa using h2⟩)
    unfold placeF at ih ⊢
    rw [List.takeWhile_cons, h0]
    simp [ih]
/-- every key is short -/
def Short98 (L : List S98) : Prop := ∀ y ∈ L, y.f0.size ≤ 1099511627776
theorem short_without {key : ByteArray} {L : List S98} (h : Short98 L) : Short98 (withoutF key L) := fun y hy => h y (List.mem_filter.1 hy).1
theorem short_commit1 {seq : Int} {x : S101} {L : List S98} (h : Short98 L) (hx : x.f0.size ≤ 1099511627776) : Short98 (commit1 seq x L) := by
  unfold commit1
  split
  · exact short_without h
  · intro y hy
    unfold insF at hy
    rw [List.mem_append, List.mem_append, List.mem_singleton] at hy
    rcases hy with (hy | hy) | hy
    · exact short_without h y (List.mem_of_mem_take hy)
    · subst hy; exact hx
    · exact short_without h y (List.mem_of_mem_drop hy)
theorem short_commitF {seq : Int} (l : List S101) (hx : ∀ x ∈ l, x.f0.size ≤ 1099511627776) : ∀ {L : List S98}, Short98 L → Short98 (commitF seq l L) := by
  induction l with
  | nil => intro L h; exact h
  | cons x l ih => intro L h; exact ih (fun y hy => hx y (by simp [hy])) (short_commit1 h (hx x (by simp)))
theorem rd101o {l : List S101} {k : Nat} (h : k < l.length) : rd_T101 l (k : Int) = l[k] := by
  unfold rd_T101
  rw [List.getD_eq_getElem?_getD, Int.toNat_natCast, List.getElem?_eq_getElem h]
  rfl
theorem sz_of {w W : World} (h : Below w.heap.size w W) : w.heap.size ≤ W.heap.size := h.size
theorem le48 {j n : Nat} (hj : j ≤ n) (hn : n ≤ 1048576) : (([] : List S98).length + j) * 48 ≤ 140737488355328 := by
  simp only [List.length_nil]
  omega
theorem le48b {j n m : Nat} (he : m = j) (hj : j ≤ n) (hn : n ≤ 1048576) : (m + 1) * 48 ≤ 140737488355328 := by omega
theorem le48c {j n : Nat} {l : List S98} {x : S98} (he : l.length = j) (hj : j ≤ n) (hn : n ≤ 1048576) : ((l ++ [x]).length + (n - j)) * 48 ≤ 140737488355328 := by
  rw [List.length_append, List.length_singleton]
  omega
theorem len_b {l : List S98} {x : S98} {j : Nat} (h : l.length = j) : (l ++ [x]).length = j + 1 := by rw [List.length_append, h, List.length_singleton]
theorem len_c {R : List S98} {x : S98} {j : Nat} (h : (R.take j).length = j) (hj : j ≤ R.length) : (R.take j ++ [x] ++ R.drop j).length = R.length + 1 := by
  rw [List.length_append, List.length_append, h, List.length_singleton, List.length_drop]
  omega
theorem lit_reads {W w5 : World} {g : Nat} (x : S98) (h : W.heap[g]? = some (box98 x)) : ReadsRow (k98.K w5) 4 W (some ⟨g, 0, none⟩) 1 [x] := by
  refine ⟨rfl, by decide, fun _ => ⟨_, rfl, fun j p hj => ?_⟩⟩
  match j, hj with
  | 0, hj =>
    simp only [List.getElem?_cons_zero, Option.some.injEq] at hj
    subst hj
    refine ⟨[.string x.f0, .bool x.f1, .string x.f2, .int .u32 x.f3], rfl, k98_mk _ _, fun i u hu => ?_⟩
    rw [Addr.add_mid, Nat.zero_mul, Nat.zero_add, Nat.zero_add, Lib.cell_of_heap h i]
    simpa using hu
theorem new_lt (w5 : World) (o : Obj) : w5.heap.size < ((w5.alloc o).drew).heap.size := by
  show w5.heap.size < (w5.alloc o).heap.size
  simp
theorem nil_own {g : Nat} : some g ≠ (Value.slice none 0 0).ownBlock := by simp [Value.ownBlock]
theorem slice_head (A : Option Addr) (n c j : Nat) (hj : j ≤ n) (hc : n ≤ c) (W : World) : (Instr.slice 41 (.slice A n c) none (some (.int .i64 (j : Int))) none).run Tryd.prog W = .ok (.slice A j c) W := by
  rw [run_slice_h W 41 A n c (by kernel_rfl) .i64 (j : Int) (by omega) (by omega)]
  go_simp
theorem slice_tail (A : Option Addr) (n c j : Nat) (hj : j ≤ n) (W : World) : (Instr.slice 41 (.slice A n c) (some (.int .i64 (j : Int))) none none).run Tryd.prog W = .ok (.slice (if c = j then A else A.map (·.add (j * 4))) (n - j) (c - j)) W := by
  rw [run_slice_l W 41 A n c (by kernel_rfl) .i64 (j : Int) (by omega) (by omega)]
  go_simp
set_option maxHeartbeats 16000000 in
set_option maxRecDepth 100000 in
theorem ref_Commit (B b : Nat) (v : Value) (L : List S98) (seq : Int) (A : Option Addr) (c : Nat) (l : List S101) (w : World) (h : RefIs w B b v L) (hr : ∀ W, w.grownBy W (some b) → Kd.C k101 W A l.length l)
    (hL : L.length + l.length ≤ 1048576) (hsL : Short98 L) (hsl : ∀ x ∈ l, x.f0.size ≤ 1099511627776) :
    Calls Tryd.prog 70 #[.pointer (some ⟨b, 0, none⟩), .int .u32 seq, .slice A l.length c] w fun e w' => e = .returned (.tuple #[]) ∧ ∃ v', RefIs w' B b v' (commitF seq l L) ∧ w.grownBy w' (some b) := by
  go_enter Tryd.func70, Tryd.ntmps70
  go_wp2
  go_loopw [6] (fun i wr => ∃ (k : Nat) (v1 : Value), k ≤ l.length ∧ i = .int .i64 k ∧ RefIs wr B b v1 (commitF seq (l.take k) L) ∧ w.grownBy wr (some b)) (fun i _ => l.length - (intOf i).toNat)
  case atStart => exact ⟨0, v, Nat.zero_le _, rfl, h, World.grownBy.refl _ _⟩
  case round =>
    obtain ⟨k, v1, hkl, rfl, hI, hg⟩ := hrel
    by_cases hlt : k < l.length
    · obtain ⟨ad, e, x0, x1, x2⟩ := at_T101 (hr _ hg) k (by omega) (by omega)
      cases e
      rw [rd101o hlt] at x0 x1 x2
      have hsx := hsl _ (List.getElem_mem hlt)
      have hsn := commitF_snoc seq (l.take k) l[k] L
      rw [← List.take_succ_eq_append_getElem hlt] at hsn
      have zz1 : ∀ W, w.grownBy W (some b) → W.cell? (ad.add (k * 3)) = some (.string l[k].f0) ∧ W.cell? ⟨(ad.add (k * 3)).block, (ad.add (k * 3)).off + 2, none⟩ = some (.string l[k].f2) := fun W hW => by
        obtain ⟨ad', e', h0, _, h2⟩ := at_T101 (hr W hW) k (by omega) (by omega)
        obtain rfl : ad = ad' := by injection e'
        rw [rd101o hlt] at h0 h2
        exact ⟨h0, h2⟩
      obtain ⟨x, hx⟩ : ∃ x, x = l[k] := ⟨_, rfl⟩
      rw [← hx] at x0 x1 x2 hsx hsn zz1
      clear hx
      simp only [Int.toNat_natCast] at x0 x1 x2
      have hlen : (commitF seq (l.take k) L).length ≤ 1048576 := by
        have h1 := commitF_len seq (l.take k) L
        have h2 := List.length_take_le k l
        omega
      have hsM : Short98 (commitF seq (l.take k) L) := short_commitF _ (fun y hy => hsl y (List.mem_of_mem_take hy)) hsL
      have cb := hI.cell0
      obtain ⟨Av, cv, ev⟩ := Kd.R_slice hI.row
      subst ev
      have hCv := (Kd.R_reads' hI.row).2.2
      obtain ⟨xk, xd, xv⟩ := x
      have zz2 : ∀ W, w.grownBy W (some b) → W.cell? (ad.add (k * 3)) = some (.string xk) ∧ W.cell? ⟨(ad.add (k * 3)).block, (ad.add (k * 3)).off + 2, none⟩ = some (.string xv) := zz1
      clear zz1
      obtain ⟨M, hM⟩ : ∃ M, M = commitF seq (l.take k) L := ⟨_, rfl⟩
      rw [← hM] at hsn hlen hsM hCv hI cb
      clear hM
      go_wp2_with fail
      refine (ref_without b Av cv M xk wr cb hCv hlen).mono ?_
      rintro e w2 ⟨v2, rfl, hR2, hb2⟩
      have hI2 := hI.below hb2
      have f2 := hI2.free
      have cb2 := hI2.cell0
      have x1' := (hb2.cell (World.block_lt_of_cell? wr _ x1)).trans x1
      obtain ⟨A2, c2, ev2⟩ := Kd.R_slice hR2
      subst ev2
      cases xd
      · have hc1 : commit1 seq ⟨xk, false, xv⟩ M = insF seq ⟨xk, false, xv⟩ (withoutF xk M) := by simp [commit1]
        rw [hc1] at hsn
        have hRl := Nat.le_trans (withoutF_len xk M) hlen
        have hsR := short_without (key := xk) hsM
        have x0' := (hb2.cell (World.block_lt_of_cell? wr _ x0)).trans x0
        have x2' := (hb2.cell (World.block_lt_of_cell? wr _ x2)).trans x2
        clear hc1 x0 x1 x2
        generalize withoutF xk M = R at hR2 hsn hRl hsR ⊢
        have Hsn := Lib.hid hsn
        clear hsn
        obtain ⟨_, hc2, hC2⟩ := Kd.R_reads' hR2
        go_wp2
        obtain ⟨wo, rfl⟩ : ∃ wo : World, wo = wr := ⟨_, rfl⟩
        go_loopw [8] (fun i wi => ∃ j : Nat, j ≤ R.length ∧ i = .int .i64 j ∧ Hid (∀ i (h : i < R.length), i < j → aheadB R[i].f0 xk = true) ∧ Below w2.heap.size w2 wi) (fun i _ => R.length - (intOf i).toNat)
        case atStart => exact ⟨0, Nat.zero_le _, rfl, Lib.hid (fun i _ hi => absurd hi (Nat.not_lt_zero _)), Below.refl _ _⟩
        case round =>
          obtain ⟨j, hjl, rfl, Hah, hbi⟩ := hrel
          have x0w := (hbi.cell (World.block_lt_of_cell? w2 _ x0')).trans x0'
          have x2w := (hbi.cell (World.block_lt_of_cell? w2 _ x2')).trans x2'
          by_cases hlj : j < R.length
          · have hCi := Kd.C_below hC2 hbi
            obtain ⟨adv, e, y0, y1, y2, y3⟩ := at_T98 hCi j (by omega) (by omega)
            cases e
            rw [rd98 hlj] at y0 y1 y2 y3
            simp only [Int.toNat_natCast] at y0 y1 y2 y3
            have hcall := fun W => cachepotref1_Ahead.calls (R[j].f0.size + xk.size + 10) R[j].f0 xk _ W (ahead_f R[j].f0 xk (hsR _ (List.getElem_mem hlj)) hsx)
            obtain ⟨bo, hbo⟩ : ∃ bo, bo = aheadB R[j].f0 xk := ⟨_, rfl⟩
            rw [← hbo] at hcall
            have Hbo := Lib.hid hbo
            clear hbo
            have d1 : decide (j < R.length) = true := decide_eq_true hlj
            have d2 : decide ((j : Int) < (R.length : Int)) = true := decide_eq_true (by omega)
            cases bo
            · go_wp2
              go_still_tail 15, (by kernel_rfl)
              change wpList _ _ _ _ _ wr.drew
              go_wp2_with fail
              refine (hcall _).mono ?_
              rintro e w5 ⟨rfl, hb5⟩
              have hbx : Below w2.heap.size w2 w5 := below_then (below_drew hbi) (below_drew hbi).size hb5
              have hpl : placeF xk R = j := place_go xk R j Hah.out hjl (.inr ⟨hlj, Hbo.out.symm⟩)
              clear hcall Hbo y0 y1 y2 y3 d1 d2 Hah hCi
              go_wp2
              have hCx := Kd.C_below hC2 hbx
              have x0x := (hbx.cell (World.block_lt_of_cell? w2 _ x0')).trans x0'
              have x2x := (hbx.cell (World.block_lt_of_cell? w2 _ x2')).trans x2'
              have Hpl := Lib.hid hpl
              clear hpl
              have hs1 := slice_head (some adv) R.length c2 j hjl hc2
              have hs2 := slice_tail (some adv) R.length c2 j hjl
              have hjt : (R.take j).length = j := by rw [List.length_take]; omega
              have hT1 : ∀ W, Below w5.heap.size w5 W → ReadsRow (k98.K w5) 4 W (some adv) j (R.take j) := fun W hW => by
                have h := Kd.C_below (Kd.C_take hCx hjl) hW
                rw [hjt] at h
                exact h.imp_ (Below.refl _ _) (fun x cs hK => by obtain rfl := k98_open hK; exact k98_mk _ _)
              have hT2 : ∀ W, Below w5.heap.size w5 W → ReadsRow (k98.K w5) 4 W (if c2 = j then (some adv) else (some adv).map (·.add (j * 4))) (R.length - j) (R.drop j) := fun W hW => by
                have h := Kd.C_below (Kd.C_drop hCx hjl hc2) hW
                rw [List.length_drop] at h
                exact h.imp_ (Below.refl _ _) (fun x cs hK => by obtain rfl := k98_open hK; exact k98_mk _ _)
              have hKM : ∀ (W : World) (x : S98) (cs : List Value), k98.K w5 x cs → k98.M W w5.heap.size (fun _ => False) x cs := fun W x cs hK => by rw [k98_open hK]; exact k98_mkM _ _ _ _
              have hI5 := hI2.below hbx
              have cb5 := hI5.cell0
              have f5 := hI5.free
              have hgx := hg.trans (World.grownBy.trans (grown_of_below hb2 (some b)) (grown_of_below hbx (some b)))
              have zz : ∀ W, Below w5.heap.size w5 W → W.cell? (ad.add (k * 3)) = some (.string xk) ∧ W.cell? ⟨(ad.add (k * 3)).block, (ad.add (k * 3)).off + 2, none⟩ = some (.string xv) := fun W hW => zz2 W (hgx.trans (grown_of_below hW _))
              have Hjt := Lib.hid hjt
              clear hjt
              go_region_held3 (fun W => W.cell? (ad.add (k * 3)) = some (.string xk) ∧ W.cell? ⟨(ad.add (k * 3)).block, (ad.add (k * 3)).off + 2, none⟩ = some (.string xv) ) (first | exact zz _ (by first | assumption | exact Below.refl _ _ | exact below_drew (Below.refl _ _) | exact below_drew (by assumption) | exact below_drew (below_alloc (Below.refl _ _) _) | exact below_alloc (below_drew (Below.refl _ _)) _ | exact below_alloc (by assumption) _) | exact zz2 _ (hgx.trans (grown_put (by assumption) _)))
                (first
                  | (refine Kd.R_append_rows_step k98 (Rr := k98.K w5) (w0 := w5) w5.heap.size (by rfl) (.const (.slice none 0 0)) (.tmp 53) 41 98 (.agg #[(.string ⟨#[]⟩), (.bool false), (.string ⟨#[]⟩), (.int .u32 0)]) 48 (by rfl) Tryd.underlying41 info98 rfl (by decide) (by decide) (.slice none 0 0) [] (R.take j) (some adv) j c2 (fun _ => True) (fun _ => False) (by rfl) (by rfl) (Kd.R_nil _ _ _ _ _) (hT1 _ (by first | assumption | exact Below.refl _ _ | exact below_drew (Below.refl _ _) | exact below_drew (by assumption) | exact below_drew (below_alloc (Below.refl _ _) _) | exact below_alloc (below_drew (Below.refl _ _)) _)) (hKM _) (fun _ h => h.elim) (fun _ _ => trivial) (by first | assumption | exact Below.refl _ _ | exact below_drew (Below.refl _ _) | exact below_drew (by assumption) | exact below_drew (below_alloc (Below.refl _ _) _) | exact below_alloc (below_drew (Below.refl _ _)) _) (sz_of (by first | assumption | exact Below.refl _ _ | exact below_drew (Below.refl _ _) | exact below_drew (by assumption) | exact below_drew (below_alloc (Below.refl _ _) _) | exact below_alloc (below_drew (Below.refl _ _)) _)) (le48 hjl hRl) ?_; intro vA wA hRA hbA hgA _; rw [List.nil_append] at hRA; obtain ⟨AA, cA, eA⟩ := Kd.R_slice hRA; rw [Hjt.out] at eA; subst eA)
                  | (refine Kd.R_append_step k98 (w0 := w5) w5.heap.size ?_ (.tmp 54) (.tmp 67) 41 98 (.agg #[(.string ⟨#[]⟩), (.bool false), (.string ⟨#[]⟩), (.int .u32 0)]) 48 ?_ Tryd.underlying41 info98 rfl ?_ ?_ _ (R.take j) ⟨xk, true, xv, seq⟩ [.string xk, .bool true, .string xv, .int .u32 seq] (fun _ => True) (fun _ => False) ?_ ?_ (k98_mkM _ _ _ ⟨xk, true, xv, seq⟩) (fun _ hk => hk.elim) (fun _ _ => trivial) hRA hbA hbA.size (le48b Hjt.out hjl hRl) ?_; (rfl); (rfl); (decide); (decide); (rfl); (first | rfl | (go_simp; done) | (go_simp; rfl)); intro vB wB hRB hbB _ _; obtain ⟨AB, cB, eB⟩ := Kd.R_slice hRB; rw [len_b Hjt.out] at eB; subst eB)
                  | (refine Kd.R_append_rows_step k98 (Rr := k98.K w5) (w0 := w5) w5.heap.size ?_ (.tmp 54) (.tmp 67) 41 98 (.agg #[(.string ⟨#[]⟩), (.bool false), (.string ⟨#[]⟩), (.int .u32 0)]) 48 ?_ Tryd.underlying41 info98 rfl ?_ ?_ _ (R.take j) [⟨xk, true, xv, seq⟩] (some ⟨w5.heap.size, 0, none⟩) 1 1 (fun _ => True) (fun _ => False) ?_ ?_ hRA (lit_reads (w5 := w5) ⟨xk, true, xv, seq⟩ ((hgA.block w5.heap.size (new_lt _ _) nil_own).trans (heap_alloc_new w5 _))) (hKM _) (fun _ h => h.elim) (fun _ _ => trivial) hbA hbA.size (le48b Hjt.out hjl hRl) ?_; (rfl); (rfl); (decide); (decide); (rfl); (rfl); intro vB wB hRB hbB _ _; obtain ⟨AB, cB, eB⟩ := Kd.R_slice hRB; rw [len_b Hjt.out] at eB; subst eB)
                  | (refine Kd.R_append_rows_step k98 (Rr := k98.K w5) (w0 := w5) w5.heap.size ?_ (.tmp 68) (.tmp 71) 41 98 (.agg #[(.string ⟨#[]⟩), (.bool false), (.string ⟨#[]⟩), (.int .u32 0)]) 48 ?_ Tryd.underlying41 info98 rfl ?_ ?_ _ (R.take j ++ [⟨xk, true, xv, seq⟩]) (R.drop j) _ (R.length - j) (c2 - j) (fun _ => True) (fun _ => False) ?_ ?_ hRB (hT2 _ hbB) (hKM _) (fun _ h => h.elim) (fun _ _ => trivial) hbB hbB.size (le48c Hjt.out hjl hRl) ?_; (rfl); (rfl); (decide); (decide); (rfl); (rfl); intro vC wC hRC hbC _ _; obtain ⟨AC, cC, eC⟩ := Kd.R_slice hRC; rw [len_c Hjt.out hjl] at eC; subst eC; have cbC := (hI5.below hbC).cell0; have fC := (hI5.below hbC).free))
              all_goals (
                have hins : R.take j ++ [⟨xk, true, xv, seq⟩] ++ R.drop j = insF seq ⟨xk, false, xv⟩ R := by rw [insF, Hpl.out]
                have hI6 := hI5.put hbC hRC
                rw [hins, ← Hsn.out] at hI6
                have hg6 := hgx.trans (grown_put (b := b) hbC (.slice AC (R.length + 1) cC))
                clear hins hRC
                go_wp2
                go_roundw
                case rel => exact ⟨k + 1, _, hlt, by simp, hI6, hg6⟩
                case measure => simp [intOf]; omega)
            · go_wp2
              go_still_tail 15, (by kernel_rfl)
              change wpList _ _ _ _ _ wr.drew
              go_wp2_with fail
              refine (hcall _).mono ?_
              rintro e w5 ⟨rfl, hb5⟩
              have hbx : Below w2.heap.size w2 w5 := below_then (below_drew hbi) (below_drew hbi).size hb5
              have Hah2 : Hid (∀ i (h : i < R.length), i < j + 1 → aheadB R[i].f0 xk = true) := Lib.hid (fun i hi hij => by
                by_cases e : i = j
                · subst e; exact Hbo.out.symm
                · exact Hah.out i hi (by omega))
              clear hcall Hbo y0 y1 y2 y3 d1 d2 Hah hCi
              go_wp2
              go_roundw
              case rel => exact ⟨j + 1, hlj, by simp, Hah2, hbx⟩
              case measure => simp [intOf]; omega
          · have d1 : decide (j < R.length) = false := decide_eq_false hlj
            have d2 : decide ((j : Int) < (R.length : Int)) = false := decide_eq_false (by omega)
            have hpl : placeF xk R = j := place_go xk R j Hah.out hjl (.inl (by omega))
            clear Hah
            go_wp2
            go_quiet (fail)
            have hbx := pw_below_drewN hbi nq
            generalize wr.drewN nq = w5 at hbx ⊢
            clear d1 d2
            go_wp2
            have hCx := Kd.C_below hC2 hbx
            have x0x := (hbx.cell (World.block_lt_of_cell? w2 _ x0')).trans x0'
            have x2x := (hbx.cell (World.block_lt_of_cell? w2 _ x2')).trans x2'
            have Hpl := Lib.hid hpl
            clear hpl
            have hs1 := slice_head A2 R.length c2 j hjl hc2
            have hs2 := slice_tail A2 R.length c2 j hjl
            have hjt : (R.take j).length = j := by rw [List.length_take]; omega
            have hT1 : ∀ W, Below w5.heap.size w5 W → ReadsRow (k98.K w5) 4 W A2 j (R.take j) := fun W hW => by
              have h := Kd.C_below (Kd.C_take hCx hjl) hW
              rw [hjt] at h
              exact h.imp_ (Below.refl _ _) (fun x cs hK => by obtain rfl := k98_open hK; exact k98_mk _ _)
            have hT2 : ∀ W, Below w5.heap.size w5 W → ReadsRow (k98.K w5) 4 W (if c2 = j then A2 else A2.map (·.add (j * 4))) (R.length - j) (R.drop j) := fun W hW => by
              have h := Kd.C_below (Kd.C_drop hCx hjl hc2) hW
              rw [List.length_drop] at h
              exact h.imp_ (Below.refl _ _) (fun x cs hK => by obtain rfl := k98_open hK; exact k98_mk _ _)
            have hKM : ∀ (W : World) (x : S98) (cs : List Value), k98.K w5 x cs → k98.M W w5.heap.size (fun _ => False) x cs := fun W x cs hK => by rw [k98_open hK]; exact k98_mkM _ _ _ _
            have hI5 := hI2.below hbx
            have cb5 := hI5.cell0
            have f5 := hI5.free
            have hgx := hg.trans (World.grownBy.trans (grown_of_below hb2 (some b)) (grown_of_below hbx (some b)))
            have zz : ∀ W, Below w5.heap.size w5 W → W.cell? (ad.add (k * 3)) = some (.string xk) ∧ W.cell? ⟨(ad.add (k * 3)).block, (ad.add (k * 3)).off + 2, none⟩ = some (.string xv) := fun W hW => zz2 W (hgx.trans (grown_of_below hW _))
            have Hjt := Lib.hid hjt
            clear hjt
            go_region_held3 (fun W => W.cell? (ad.add (k * 3)) = some (.string xk) ∧ W.cell? ⟨(ad.add (k * 3)).block, (ad.add (k * 3)).off + 2, none⟩ = some (.string xv) ) (first | exact zz _ (by first | assumption | exact Below.refl _ _ | exact below_drew (Below.refl _ _) | exact below_drew (by assumption) | exact below_drew (below_alloc (Below.refl _ _) _) | exact below_alloc (below_drew (Below.refl _ _)) _ | exact below_alloc (by assumption) _) | exact zz2 _ (hgx.trans (grown_put (by assumption) _)))
              (first
                | (refine Kd.R_append_rows_step k98 (Rr := k98.K w5) (w0 := w5) w5.heap.size (by rfl) (.const (.slice none 0 0)) (.tmp 53) 41 98 (.agg #[(.string ⟨#[]⟩), (.bool false), (.string ⟨#[]⟩), (.int .u32 0)]) 48 (by rfl) Tryd.underlying41 info98 rfl (by decide) (by decide) (.slice none 0 0) [] (R.take j) A2 j c2 (fun _ => True) (fun _ => False) (by rfl) (by rfl) (Kd.R_nil _ _ _ _ _) (hT1 _ (by first | assumption | exact Below.refl _ _ | exact below_drew (Below.refl _ _) | exact below_drew (by assumption) | exact below_drew (below_alloc (Below.refl _ _) _) | exact below_alloc (below_drew (Below.refl _ _)) _)) (hKM _) (fun _ h => h.elim) (fun _ _ => trivial) (by first | assumption | exact Below.refl _ _ | exact below_drew (Below.refl _ _) | exact below_drew (by assumption) | exact below_drew (below_alloc (Below.refl _ _) _) | exact below_alloc (below_drew (Below.refl _ _)) _) (sz_of (by first | assumption | exact Below.refl _ _ | exact below_drew (Below.refl _ _) | exact below_drew (by assumption) | exact below_drew (below_alloc (Below.refl _ _) _) | exact below_alloc (below_drew (Below.refl _ _)) _)) (le48 hjl hRl) ?_; intro vA wA hRA hbA hgA _; rw [List.nil_append] at hRA; obtain ⟨AA, cA, eA⟩ := Kd.R_slice hRA; rw [Hjt.out] at eA; subst eA)
                | (refine Kd.R_append_step k98 (w0 := w5) w5.heap.size ?_ (.tmp 54) (.tmp 67) 41 98 (.agg #[(.string ⟨#[]⟩), (.bool false), (.string ⟨#[]⟩), (.int .u32 0)]) 48 ?_ Tryd.underlying41 info98 rfl ?_ ?_ _ (R.take j) ⟨xk, true, xv, seq⟩ [.string xk, .bool true, .string xv, .int .u32 seq] (fun _ => True) (fun _ => False) ?_ ?_ (k98_mkM _ _ _ ⟨xk, true, xv, seq⟩) (fun _ hk => hk.elim) (fun _ _ => trivial) hRA hbA hbA.size (le48b Hjt.out hjl hRl) ?_; (rfl); (rfl); (decide); (decide); (rfl); (first | rfl | (go_simp; done) | (go_simp; rfl)); intro vB wB hRB hbB _ _; obtain ⟨AB, cB, eB⟩ := Kd.R_slice hRB; rw [len_b Hjt.out] at eB; subst eB)
                | (refine Kd.R_append_rows_step k98 (Rr := k98.K w5) (w0 := w5) w5.heap.size ?_ (.tmp 54) (.tmp 67) 41 98 (.agg #[(.string ⟨#[]⟩), (.bool false), (.string ⟨#[]⟩), (.int .u32 0)]) 48 ?_ Tryd.underlying41 info98 rfl ?_ ?_ _ (R.take j) [⟨xk, true, xv, seq⟩] (some ⟨w5.heap.size, 0, none⟩) 1 1 (fun _ => True) (fun _ => False) ?_ ?_ hRA (lit_reads (w5 := w5) ⟨xk, true, xv, seq⟩ ((hgA.block w5.heap.size (new_lt _ _) nil_own).trans (heap_alloc_new w5 _))) (hKM _) (fun _ h => h.elim) (fun _ _ => trivial) hbA hbA.size (le48b Hjt.out hjl hRl) ?_; (rfl); (rfl); (decide); (decide); (rfl); (rfl); intro vB wB hRB hbB _ _; obtain ⟨AB, cB, eB⟩ := Kd.R_slice hRB; rw [len_b Hjt.out] at eB; subst eB)
                | (refine Kd.R_append_rows_step k98 (Rr := k98.K w5) (w0 := w5) w5.heap.size ?_ (.tmp 68) (.tmp 71) 41 98 (.agg #[(.string ⟨#[]⟩), (.bool false), (.string ⟨#[]⟩), (.int .u32 0)]) 48 ?_ Tryd.underlying41 info98 rfl ?_ ?_ _ (R.take j ++ [⟨xk, true, xv, seq⟩]) (R.drop j) _ (R.length - j) (c2 - j) (fun _ => True) (fun _ => False) ?_ ?_ hRB (hT2 _ hbB) (hKM _) (fun _ h => h.elim) (fun _ _ => trivial) hbB hbB.size (le48c Hjt.out hjl hRl) ?_; (rfl); (rfl); (decide); (decide); (rfl); (rfl); intro vC wC hRC hbC _ _; obtain ⟨AC, cC, eC⟩ := Kd.R_slice hRC; rw [len_c Hjt.out hjl] at eC; subst eC; have cbC := (hI5.below hbC).cell0; have fC := (hI5.below hbC).free))
            all_goals (
              have hins : R.take j ++ [⟨xk, true, xv, seq⟩] ++ R.drop j = insF seq ⟨xk, false, xv⟩ R := by rw [insF, Hpl.out]
              have hI6 := hI5.put hbC hRC
              rw [hins, ← Hsn.out] at hI6
              have hg6 := hgx.trans (grown_put (b := b) hbC (.slice AC (R.length + 1) cC))
              clear hins hRC
              go_wp2
              go_roundw
              case rel => exact ⟨k + 1, _, hlt, by simp, hI6, hg6⟩
              case measure => simp [intOf]; omega)
      · have hI3 := hI.put hb2 hR2
        have hg3 := hg.trans (grown_put (b := b) hb2 (.slice A2 (withoutF xk M).length c2))
        have hc1 : commit1 seq ⟨xk, true, xv⟩ M = withoutF xk M := by simp [commit1]
        rw [hc1] at hsn
        have Hsn := Lib.hid hsn
        clear hsn hc1
        go_wp2
        go_roundw
        case rel => exact ⟨k + 1, _, hlt, by simp, by rw [Hsn.out]; exact hI3, hg3⟩
        case measure => simp [intOf]; omega
    · have hke : k = l.length := by omega
      subst hke
      rw [List.take_length] at hI
      go_wp2
      go_end0
      exact ⟨rfl, v1, hI, hg⟩
end Go.Proofs.YtfaelejeihmgcaaDoor.Lgx
end

section
namespace Go.Proofs.YtfaelejeihmgcaaDoor.Lgx
open Go.RowKit Go.Proofs.YtfaelejeihmgcaaDoorW.PrintWords Go.Proofs.YtfaelejeihmgcaaDoorW.PrintLast
open Rn (aheadB ahead_f)
def placeK (key : ByteArray) (out : List ByteArray) : Nat := (out.takeWhile fun y => aheadB y key).length
def hitK (key : ByteArray) (out : List ByteArray) : Bool := match out[placeK key out]? with | some y => y.toList == key.toList | none => false
def sort1 (out : List ByteArray) (key : ByteArray) : List ByteArray := if hitK key out = true then out else out.take (placeK key out) ++ [key] ++ out.drop (placeK key out)
def sortedF (l : List ByteArray) : List ByteArray := l.foldl sort1 []
def shortK (l : List ByteArray) : Bool := decide (l.length ≤ 1048576) && l.all fun s => decide (s.size ≤ 1099511627776)
def cachepotref1_KeysSorted.f (l0 : List ByteArray) : Option (List ByteArray) := if shortK l0 = true then some (sortedF l0) else none
end Go.Proofs.YtfaelejeihmgcaaDoor.Lgx
end

section
namespace Go.Proofs.YtfaelejeihmgcaaDoor.Atm
open Go.RowKit Go.Maps
/-- what a key has: whether, the value, the batch -/
abbrev Had := Bool × ByteArray × Int
def nought : Had := (false, ⟨#[]⟩, 0)
def datum (x : Had) : DataW Unit := .agg [.lit (.bool x.1), .lit (.string x.2.1.data.toList), .lit (.int .u32 x.2.2)]
theorem bytes_inj {a b : ByteArray} (h : a.data.toList = b.data.toList) : a = b := by
  obtain ⟨⟨a⟩⟩ := a
  obtain ⟨⟨b⟩⟩ := b
  simp at h
  rw [h]
theorem datum_inj {x y : Had} (h : datum x = datum y) : x = y := by
  obtain ⟨a, b, c⟩ := x
  obtain ⟨a', b', c'⟩ := y
  simp only [datum, DataW.agg.injEq, List.cons.injEq, DataW.lit.injEq, Lit.bool.injEq, Lit.string.injEq, Lit.int.injEq, and_true, true_and] at h
  obtain ⟨h1, h2, h3⟩ := h
  rw [h1, bytes_inj h2, h3]
/-- How an element reads: its own key is not looked at. -/
def ansElem : Value → Option (DataW Unit × List MemPlace)
  | .agg ⟨[.string _, .bool i, .string s, .int .u32 f]⟩ => some (datum (i, s, f), [])
  | _ => none
def ansVal (k : ByteArray) (x : Had) : Value := .agg #[.string k, .bool x.1, .string x.2.1, .int .u32 x.2.2]
theorem ansElem_mk (k : ByteArray) (x : Had) : ansElem (ansVal k x) = some (datum x, []) := rfl
theorem ansElem_inv {v : Value} {z : DataW Unit × List MemPlace} (h : ansElem v = some z) : ∃ k x, v = ansVal k x ∧ z = (datum x, []) := by
  unfold ansElem at h
  split at h
  · rename_i k i s f
    cases h
    exact ⟨k, (i, s, f), rfl, rfl⟩
  · cases h
theorem law : Keyed Tryd.prog 9 := string_keyed Tryd.underlying9
theorem zeroE (w : World) : (zeroValue 98).run Tryd.prog w = .ok (ansVal ⟨#[]⟩ nought) w := by kernel_rfl
/-- Block b is a map of at most n entries that tells M. -/
structure MapIs (w : World) (b n : Nat) (M : ByteArray → Had) : Prop where
  out : ∃ D, w.ownsMap Tryd.prog 9 ansElem b n D ∧ ∀ k : ByteArray, D.atKey (.string k.data.toList) (datum nought) = datum (M k)
def putM (M : ByteArray → Had) (k : ByteArray) (x : Had) : ByteArray → Had := fun k' => if k' = k then x else M k'
theorem MapIs.made (w : World) : MapIs (w.alloc (.map #[] 0)) w.heap.size 0 (fun _ => nought) :=
  ⟨_, World.ownsMap_made w Tryd.prog 9 ansElem, fun _ => rfl⟩
theorem MapIs.lt {w : World} {b n : Nat} {M : ByteArray → Had} (h : MapIs w b n M) : b < w.heap.size := by
  obtain ⟨D, h, _⟩ := h
  exact h.lt
theorem MapIs.mono {w : World} {b n n' : Nat} {M : ByteArray → Had} (h : MapIs w b n M) (hn : n ≤ n') : MapIs w b n' M := by
  obtain ⟨D, h, hM⟩ := h
  exact ⟨D, h.mono hn, hM⟩
theorem MapIs.move {w w' : World} {b n : Nat} {M : ByteArray → Had} (h : MapIs w b n M) (he : w'.heap[b]? = w.heap[b]?) : MapIs w' b n M := by
  obtain ⟨D, ⟨es, clock, hb, r⟩, hM⟩ := h
  exact ⟨D, ⟨es, clock, he.trans hb, r⟩, hM⟩
theorem MapIs.below {w w' : World} {b n : Nat} {M : ByteArray → Had} (h : MapIs w b n M) (hb : Below w.heap.size w w') : MapIs w' b n M := h.move (hb.block b h.lt)
theorem MapIs.is_map {w : World} {b n : Nat} {M : ByteArray → Had} (h : MapIs w b n M) : ∃ es clock, w.heap[b]? = some (.map es clock) := by
  obtain ⟨D, ⟨es, clock, hb, _⟩, _⟩ := h
  exact ⟨es, clock, hb⟩
theorem keyed (k : ByteArray) (hk : k.size ≤ maxLen) : keyOf Tryd.prog 9 (.string k) = some (.string k.data.toList) := WideMaps.keyOf_string_mk Tryd.underlying9 hk
theorem lit_ne {k k' : ByteArray} (h : k' ≠ k) : Lit.string k'.data.toList ≠ Lit.string k.data.toList := fun e => h (bytes_inj (by simpa using e))
section
variable {ops : Array Oper} {rest : List Oper} {o : Oper} {a : Act} {Q : Exit → Act → World → Prop}
/-- 'm[k]' -/
theorem wpList_look (w : World) (hg : o.guard = none) (m x : Operand) (hop : o.op = Op.lookup 142 m x false) (b n : Nat) (M : ByteArray → Had)
    (hm : a.eval m = .map (some b)) (h : MapIs w b n M) (k : ByteArray) (hx : a.eval x = .string k) (hk : k.size ≤ maxLen)
    (hK : ∀ k', wpList Tryd.prog ops Q rest (a.put o.dst (ansVal k' (M k))) w) :
    wpList Tryd.prog ops Q (o :: rest) a w := by
  refine wpList_plain hg fun K' hK' => ?_
  obtain ⟨D, hown, hM⟩ := h
  obtain ⟨v, ps, hrun, hv⟩ := hown.lookup law Tryd.underlying142 (zeroE w) (ansElem_mk _ _) (keyed k hk)
  obtain ⟨k', y, rfl, hz⟩ := ansElem_inv hv
  rw [hM k] at hz
  simp only [Prod.mk.injEq] at hz
  obtain rfl := datum_inj hz.1
  unfold Oper.wp
  simp [execOp, hop, hm, hx, hrun, Result.andThen]
  exact hK' _ _ (hK k')
/-- 'm[k] = v' -/
theorem wpList_put (w : World) (hg : o.guard = none) (m x v : Operand) (hop : o.op = Op.mapUpdate 142 m x v) (b n : Nat) (M : ByteArray → Had)
    (hm : a.eval m = .map (some b)) (h : MapIs w b n M) (hn : n < maxLen) (k k' : ByteArray) (y : Had) (hx : a.eval x = .string k) (hv : a.eval v = ansVal k' y) (hk : k.size ≤ maxLen)
    (hK : ∀ w', MapIs w' b (n + 1) (putM M k y) → w.grownBy w' (some b) → wpList Tryd.prog ops Q rest (a.put o.dst undef) w') :
    wpList Tryd.prog ops Q (o :: rest) a w := by
  obtain ⟨D, hown, hM⟩ := h
  refine wpList_mapUpdate_in w hg m x v 142 hop 9 98 law Tryd.underlying142 ansElem b n D hm hown hn _ _ _ hx hv (keyed k hk) _ _ (ansElem_mk k' y) ?_
  intro w' h1 ht
  refine hK w' ⟨_, h1, fun q => ?_⟩ ht.grown
  unfold putM
  by_cases hq : q = k
  · subst hq
    rw [if_pos rfl]
    exact atKey_put_same hown.isMap (law.key (keyed q hk)) _ _
  · rw [if_neg hq, atKey_put_other (lit_ne hq)]
    exact hM q
/-- 'delete(m, k)' -/
theorem wpList_del (w : World) (hg : o.guard = none) (m x : Operand) (hop : o.op = Op.call { callee := Callee.builtin Builtin.delete, args := #[m, x], argTypes := #[142, 9] }) (b n : Nat) (M : ByteArray → Had)
    (hm : a.eval m = .map (some b)) (h : MapIs w b n M) (k : ByteArray) (hx : a.eval x = .string k) (hk : k.size ≤ maxLen)
    (hK : ∀ w', MapIs w' b n (putM M k nought) → w.grownBy w' (some b) → wpList Tryd.prog ops Q rest (a.put o.dst (.tuple #[])) w') :
    wpList Tryd.prog ops Q (o :: rest) a w := by
  obtain ⟨D, hown, hM⟩ := h
  refine wpList_delete_own w hg m x 142 9 hop 98 law Tryd.underlying142 ansElem b n D hm hown _ _ hx (keyed k hk) ?_
  intro w' h1 ht
  refine hK w' ⟨_, h1, fun q => ?_⟩ ht.grown
  unfold putM
  by_cases hq : q = k
  · subst hq
    rw [if_pos rfl]
    exact atKey_del_same _
  · rw [if_neg hq, atKey_del_other (lit_ne hq)]
    exact hM q
end
end Go.Proofs.YtfaelejeihmgcaaDoor.Atm
end

section
namespace Go.Proofs.YtfaelejeihmgcaaDoor.Lgx
open Go.RowKit Go.Proofs.YtfaelejeihmgcaaDoorW.PrintWords Go.Proofs.YtfaelejeihmgcaaDoorW.PrintLast
open Atm (MapIs Had nought putM ansVal)
/-- A pointer to a Map in block b, whose map is block m. -/
structure AtomIs (w : World) (b m n : Nat) (M : ByteArray → Had) : Prop where
  cell : w.heap[b]? = some (.cells #[.map (some m)] 144 (0, 0))
  map : MapIs w m n M
theorem AtomIs.lt {w : World} {b m n : Nat} {M : ByteArray → Had} (h : AtomIs w b m n M) : b < w.heap.size := (Array.getElem?_eq_some_iff.1 h.cell).1
theorem AtomIs.ne {w : World} {b m n : Nat} {M : ByteArray → Had} (h : AtomIs w b m n M) : b ≠ m := fun e => by
  subst e
  obtain ⟨es, clock, hb⟩ := h.map.is_map
  have := h.cell.symm.trans hb
  cases this
theorem AtomIs.below {w w' : World} {b m n : Nat} {M : ByteArray → Had} (h : AtomIs w b m n M) (hb : Below w.heap.size w w') : AtomIs w' b m n M :=
  ⟨(hb.block b h.lt).trans h.cell, h.map.below hb⟩
theorem AtomIs.cell0 {w : World} {b m n : Nat} {M : ByteArray → Had} (h : AtomIs w b m n M) : w.cell? ⟨b, 0, none⟩ = some (.map (some m)) := by
  simp [World.cell?, h.cell]
/-- the map is written -/
theorem AtomIs.put {w w' : World} {b m n n' : Nat} {M M' : ByteArray → Had} (h : AtomIs w b m n M) (hm : MapIs w' m n' M') (hg : w.grownBy w' (some m)) : AtomIs w' b m n' M' :=
  ⟨(hg.block b h.lt (fun e => h.ne (Option.some.inj e))).trans h.cell, hm⟩
theorem atom_New (w : World) :
    Calls Tryd.prog 72 #[] w fun e w' => e = .returned (.pointer (some ⟨w.heap.size + 1, 0, none⟩)) ∧ AtomIs w' (w.heap.size + 1) w.heap.size 0 (fun _ => nought) ∧ Below w.heap.size w w' := by
  have hmm := @run_makeMap Tryd.prog
  go_enter Tryd.func72, Tryd.ntmps72
  go_wp2
  go_ret
  refine ⟨rfl, ⟨?_, (MapIs.made w).below (below_alloc (Below.refl _ _) _)⟩, below_alloc (below_alloc (Below.refl _ _) _) _⟩
  have h := heap_alloc_new (w.alloc (Obj.map #[] 0)) (Obj.cells #[Value.map (some w.heap.size)] 144)
  rwa [show (w.alloc (Obj.map #[] 0)).heap.size = w.heap.size + 1 by simp] at h
def commitM (seq : Int) : List S101 → (ByteArray → Had) → (ByteArray → Had)
  | [], M => M
  | x :: l, M => commitM seq l (putM M x.f0 (if x.f1 then nought else (true, x.f2, seq)))
theorem commitM_snoc (seq : Int) (l : List S101) (x : S101) : ∀ M, commitM seq (l ++ [x]) M = putM (commitM seq l M) x.f0 (if x.f1 then nought else (true, x.f2, seq)) := by
  induction l with
  | nil => intro M; rfl
  | cons y l ih => intro M; exact ih _
theorem rd101 {l : List S101} {k : Nat} (h : k < l.length) : rd_T101 l (k : Int) = l[k] := by
  unfold rd_T101
  rw [List.getD_eq_getElem?_getD, Int.toNat_natCast, List.getElem?_eq_getElem h]
  rfl
set_option maxHeartbeats 4000000 in
set_option maxRecDepth 100000 in
theorem atom_Commit (b m n : Nat) (M : ByteArray → Had) (seq : Int) (A : Option Addr) (c : Nat) (l : List S101) (w : World) (hA : AtomIs w b m n M) (hr : ∀ W, w.grownBy W (some m) → Kd.C k101 W A l.length l)
    (hk : ∀ x ∈ l, x.f0.size ≤ maxLen) (hn : n + l.length < maxLen) :
    Calls Tryd.prog 73 #[.pointer (some ⟨b, 0, none⟩), .int .u32 seq, .slice A l.length c] w fun e w' => e = .returned (.tuple #[]) ∧ AtomIs w' b m (n + l.length) (commitM seq l M) ∧ w.grownBy w' (some m) := by
  have cb := hA.cell0
  have q0 := fun (w : World) (r : Option Nat) => run_eql_map_nil (P := Tryd.prog) w 142 9 98 r Tryd.underlying142
  have hl : l.length ≤ 9223372036854775807 := by unfold maxLen at hn; omega
  go_enter Tryd.func73, Tryd.ntmps73
  go_wp2
  go_loopw [21] (fun i wr => ∃ k : Nat, k ≤ l.length ∧ i = .int .i64 k ∧ AtomIs wr b m (n + k) (commitM seq (l.take k) M) ∧ w.grownBy wr (some m)) (fun i _ => l.length - (intOf i).toNat)
  case atStart => exact ⟨0, Nat.zero_le _, rfl, hA, World.grownBy.refl _ _⟩
  case round =>
    obtain ⟨k, hkl, rfl, hI, hg⟩ := hrel
    by_cases hlt : k < l.length
    · obtain ⟨ad, e, c0, c1, c2⟩ := at_T101 (hr _ hg) k (by omega) (by omega)
      cases e
      rw [rd101 hlt] at c0 c1 c2
      have hkk := hk _ (List.getElem_mem hlt)
      have hsn := commitM_snoc seq (l.take k) l[k] M
      rw [← List.take_succ_eq_append_getElem hlt] at hsn
      obtain ⟨x, hx⟩ : ∃ x, x = l[k] := ⟨_, rfl⟩
      rw [← hx] at c0 c1 c2 hkk hsn
      have Hsn := Lib.hid hsn
      have Hx := Lib.hid hx
      clear hsn hx
      simp only [Int.toNat_natCast] at c0 c1 c2
      have cb1 := hI.cell0
      have hblt := hI.lt
      obtain ⟨xk, xd, xv⟩ := x
      cases xd
      · go_wp2_with fail
        have hIW := hI.below (below_alloc (Below.refl _ _) (Obj.cells #[Value.string xk, Value.bool false, Value.string xv] 101))
        have hgW := hg.trans (World.grownBy_alloc wr (Obj.cells #[Value.string xk, Value.bool false, Value.string xv] 101) (some m))
        have g0 := Lib.cell_of_heap (heap_alloc_new wr (Obj.cells #[Value.string xk, Value.bool false, Value.string xv] 101)) 0
        have g2 := Lib.cell_of_heap (heap_alloc_new wr (Obj.cells #[Value.string xk, Value.bool false, Value.string xv] 101)) 2
        simp only [List.getElem?_toArray, List.getElem?_cons_zero, List.getElem?_cons_succ] at g0 g2
        generalize wr.alloc (Obj.cells #[Value.string xk, Value.bool false, Value.string xv] 101) = W at hIW hgW g0 g2 ⊢
        have cbW := hIW.cell0
        go_still_tail 12, (by kernel_rfl)
        change wpList _ _ _ _ _ W.drew
        refine Atm.wpList_put _ rfl _ _ _ rfl m (n + k) _ rfl (hIW.map.below (below_drew (Below.refl _ _))) (by omega) xk xk (true, xv, seq) rfl rfl hkk ?_
        intro w1 hm1 hg1
        have hA1 := AtomIs.put (hIW.below (below_drew (Below.refl _ _))) hm1 hg1
        have hg2 := hgW.trans (World.grownBy.trans ((grown_of_below (below_drew (Below.refl _ _)) _)) hg1)
        clear hm1 hg1
        go_wp2
        go_roundw
        case rel => exact ⟨k + 1, hlt, by simp, by rw [Hsn.out]; exact hA1, hg2⟩
        case measure => simp [intOf]; omega
      · go_wp2_with fail
        have hIW := hI.below (below_alloc (Below.refl _ _) (Obj.cells #[Value.string xk, Value.bool true, Value.string xv] 101))
        have hgW := hg.trans (World.grownBy_alloc wr (Obj.cells #[Value.string xk, Value.bool true, Value.string xv] 101) (some m))
        have g0 := Lib.cell_of_heap (heap_alloc_new wr (Obj.cells #[Value.string xk, Value.bool true, Value.string xv] 101)) 0
        have g2 := Lib.cell_of_heap (heap_alloc_new wr (Obj.cells #[Value.string xk, Value.bool true, Value.string xv] 101)) 2
        simp only [List.getElem?_toArray, List.getElem?_cons_zero, List.getElem?_cons_succ] at g0 g2
        generalize wr.alloc (Obj.cells #[Value.string xk, Value.bool true, Value.string xv] 101) = W at hIW hgW g0 g2 ⊢
        have cbW := hIW.cell0
        go_still_tail 6, (by kernel_rfl)
        change wpList _ _ _ _ _ W.drew
        refine Atm.wpList_del _ rfl _ _ rfl m (n + k) _ rfl (hIW.map.below (below_drew (Below.refl _ _))) xk rfl hkk ?_
        intro w1 hm1 hg1
        have hA1 := AtomIs.put (hIW.below (below_drew (Below.refl _ _))) (hm1.mono (Nat.le_succ _)) hg1
        have hg2 := hgW.trans (World.grownBy.trans ((grown_of_below (below_drew (Below.refl _ _)) _)) hg1)
        clear hm1 hg1
        go_wp2
        go_roundw
        case rel => exact ⟨k + 1, hlt, by simp, by rw [Hsn.out]; exact hA1, hg2⟩
        case measure => simp [intOf]; omega
    · have hke : k = l.length := by omega
      subst hke
      rw [List.take_length] at hI
      go_wp2
      go_end0
      exact ⟨rfl, hI, hg⟩
def forgetM : List ByteArray → (ByteArray → Had) → (ByteArray → Had)
  | [], M => M
  | x :: l, M => forgetM l (putM M x nought)
theorem forgetM_snoc (l : List ByteArray) (x : ByteArray) : ∀ M, forgetM (l ++ [x]) M = putM (forgetM l M) x nought := by
  induction l with
  | nil => intro M; rfl
  | cons y l ih => intro M; exact ih _
theorem rdstr {l : List ByteArray} {k : Nat} (h : k < l.length) : rdOf ByteArray.empty l (k : Int) = l[k] := by
  unfold rdOf
  rw [List.getD_eq_getElem?_getD, Int.toNat_natCast, List.getElem?_eq_getElem h]
  rfl
set_option maxHeartbeats 4000000 in
set_option maxRecDepth 100000 in
theorem atom_Forget (b m n : Nat) (M : ByteArray → Had) (A : Option Addr) (c : Nat) (l : List ByteArray) (w : World) (hA : AtomIs w b m n M) (hr : ∀ W, w.grownBy W (some m) → Kd.C Kd.string W A l.length l)
    (hk : ∀ x ∈ l, x.size ≤ maxLen) (hl : l.length ≤ 9223372036854775807) :
    Calls Tryd.prog 74 #[.pointer (some ⟨b, 0, none⟩), .slice A l.length c] w fun e w' => e = .returned (.tuple #[]) ∧ AtomIs w' b m n (forgetM l M) ∧ w.grownBy w' (some m) := by
  have cb := hA.cell0
  go_enter Tryd.func74, Tryd.ntmps74
  go_wp2
  go_loopw [10] (fun i wr => ∃ k : Nat, k ≤ l.length ∧ i = .int .i64 k ∧ AtomIs wr b m n (forgetM (l.take k) M) ∧ w.grownBy wr (some m)) (fun i _ => l.length - (intOf i).toNat)
  case atStart => exact ⟨0, Nat.zero_le _, rfl, hA, World.grownBy.refl _ _⟩
  case round =>
    obtain ⟨k, hkl, rfl, hI, hg⟩ := hrel
    by_cases hlt : k < l.length
    · obtain ⟨ad, e, c0⟩ := Kd.at_string (hr _ hg) k (by omega) (by omega)
      cases e
      rw [rdstr hlt] at c0
      have hkk := hk _ (List.getElem_mem hlt)
      have hsn := forgetM_snoc (l.take k) l[k] M
      rw [← List.take_succ_eq_append_getElem hlt] at hsn
      obtain ⟨x, hx⟩ : ∃ x, x = l[k] := ⟨_, rfl⟩
      rw [← hx] at c0 hkk hsn
      have Hsn := Lib.hid hsn
      clear hsn hx
      simp only [Int.toNat_natCast] at c0
      have cb1 := hI.cell0
      go_wp2_with (at_delete; refine Atm.wpList_del _ rfl _ _ rfl m n _ rfl hI.map x rfl hkk ?_)
      intro w1 hm1 hg1
      have hA1 := AtomIs.put hI hm1 hg1
      have hg2 := hg.trans hg1
      clear hm1 hg1
      go_wp2
      go_roundw
      case rel => exact ⟨k + 1, hlt, by simp, by rw [Hsn.out]; exact hA1, hg2⟩
      case measure => simp [intOf]; omega
    · have hke : k = l.length := by omega
      subst hke
      rw [List.take_length] at hI
      go_wp2
      go_end0
      exact ⟨rfl, hI, hg⟩
def getM (M : ByteArray → Had) (l : List ByteArray) : List S98 := l.map fun k => ⟨k, (M k).1, (M k).2.1, (M k).2.2⟩
set_option maxHeartbeats 4000000 in
set_option maxRecDepth 100000 in
theorem atom_Get (b m n : Nat) (M : ByteArray → Had) (A : Option Addr) (c : Nat) (l : List ByteArray) (w : World) (hA : AtomIs w b m n M) (hr : Kd.C Kd.string w A l.length l)
    (hk : ∀ x ∈ l, x.size ≤ maxLen) (hl : l.length ≤ 1048576) :
    Calls Tryd.prog 76 #[.pointer (some ⟨b, 0, none⟩), .slice A l.length c] w fun e w' => ∃ v : Value, e = .returned v ∧ Kd.R k98 98 w' w.heap.size (fun _ => True) v (getM M l) ∧ Below w.heap.size w w' := by
  have cb := hA.cell0
  go_enter Tryd.func76, Tryd.ntmps76
  go_wp2
  go_loopw [5, 13] (fun v i wr => ∃ k : Nat, k ≤ l.length ∧ i = .int .i64 k ∧ Kd.R k98 98 wr w.heap.size (fun _ => True) v (getM M (l.take k)) ∧ Below w.heap.size w wr) (fun _ i _ => l.length - (intOf i).toNat)
  case atStart => exact ⟨0, Nat.zero_le _, rfl, Kd.R_nil _ _ _ _ _, Below.refl _ _⟩
  case round =>
    obtain ⟨k, hkl, rfl, hR, hb⟩ := hrel
    have hI := hA.below hb
    have cb1 := hI.cell0
    by_cases hlt : k < l.length
    · obtain ⟨ad, e, c0⟩ := Kd.at_string (Kd.C_below hr hb) k (by omega) (by omega)
      cases e
      rw [rdstr hlt] at c0
      have hkk := hk _ (List.getElem_mem hlt)
      have hsn : getM M (l.take (k + 1)) = getM M (l.take k) ++ [⟨l[k], (M l[k]).1, (M l[k]).2.1, (M l[k]).2.2⟩] := by
        rw [List.take_succ_eq_append_getElem hlt]
        simp only [getM, List.map_append, List.map_cons, List.map_nil]
      obtain ⟨x, hx⟩ : ∃ x, x = l[k] := ⟨_, rfl⟩
      rw [← hx] at c0 hkk hsn
      obtain ⟨mi, mv, mf, hmx⟩ : ∃ mi mv mf, M x = (mi, mv, mf) := ⟨_, _, _, rfl⟩
      rw [hmx] at hsn
      have Hmx := Lib.hid hmx
      clear hmx
      have Hsn := Lib.hid hsn
      clear hsn hx
      simp only [Int.toNat_natCast] at c0
      have hblt := hI.lt
      go_wp2_with (at_lookup; refine Atm.wpList_look _ rfl _ _ rfl m n _ rfl hI.map x rfl hkk ?_)
      intro k'
      rw [Hmx.out]
      unfold ansVal
      have hlen : (getM M (l.take k)).length ≤ 1048576 := by simp only [getM, List.length_map]; have := List.length_take_le k l; omega
      go_wp2_with (at_builtin; refine Kd.R_append k98 (w0 := w) w.heap.size rfl (.tmp 25) (.tmp 27) 41 98 (.agg #[(.string ⟨#[]⟩), (.bool false), (.string ⟨#[]⟩), (.int .u32 0)]) 48 rfl Tryd.underlying41 info98 rfl (by decide) (by omega) u5 (getM M (l.take k)) ⟨x, mi, mv, mf⟩ [.string x, .bool mi, .string mv, .int .u32 mf] (fun _ => True) (fun _ => False) rfl (by first | (go_simp; done) | (go_simp; rfl)) (k98_mkM _ _ _ ⟨x, mi, mv, mf⟩) (fun _ hk => hk.elim) (fun _ _ => trivial) (Kd.R_alloc hR _) (below_alloc hb _) (below_alloc hb _).size ?aL ?_)
      case aL => omega
      intro v1 w1 hR1 hb1 _ _
      have hR2 : Kd.R k98 98 w1 w.heap.size (fun _ => True) v1 (getM M (l.take (k + 1))) := by rw [Hsn.out]; exact hR1
      clear hR hR1
      go_wp2
      go_roundw
      case rel => exact ⟨k + 1, hlt, by simp, hR2, hb1⟩
      case measure => simp [intOf]; omega
    · have hke : k = l.length := by omega
      subst hke
      rw [List.take_length] at hR
      go_wp2
      go_ret
      exact ⟨_, rfl, hR, hb⟩
end Go.Proofs.YtfaelejeihmgcaaDoor.Lgx
end

section
namespace Go.Proofs.YtfaelejeihmgcaaDoor.Lgx
open Go.RowKit Go.Proofs.YtfaelejeihmgcaaDoorW.PrintWords Go.Proofs.YtfaelejeihmgcaaDoorW.PrintLast
open Atm (MapIs Had nought putM ansVal)
def asked (l : List S98) : List ByteArray := l.map (·.f0)
def stepM (e : S43) (M : ByteArray → Had) : ByteArray → Had :=
  if e.f0 = 1 then commitM e.f1 e.f2 M else if e.f0 = 3 then forgetM e.f4 M else M
def fails (e : S43) (M : ByteArray → Had) : Bool := decide (e.f0 = 2) && !sameA (getM M (asked e.f3)) e.f3
def replayM : Nat → (ByteArray → Had) → List S43 → Int × Bool
  | i, _, [] => ((i : Int), true)
  | i, M, e :: l => if fails e M = true then ((i : Int), false) else replayM (i + 1) (stepM e M) l
def small (s : ByteArray) : Bool := decide (s.size ≤ 140737488355328)
def okE (e : S43) : Bool := decide (e.f2.length ≤ 1048576) && decide (e.f3.length ≤ 1048576) && decide (e.f4.length ≤ 1048576) && e.f2.all (fun x => small x.f0) && e.f3.all (fun x => small x.f0) && e.f4.all small
def okL (l : List S43) : Bool := decide (l.length ≤ 1048576) && l.all okE
def ledger_Replay.f (l0 : List S43) : Option (Int × Bool) := if okL l0 = true then some (replayM 0 (fun _ => nought) l0) else none
theorem rd43 {l : List S43} {k : Nat} (h : k < l.length) : rd_T43 l (k : Int) = l[k] := by
  unfold rd_T43
  rw [List.getD_eq_getElem?_getD, Int.toNat_natCast, List.getElem?_eq_getElem h]
  rfl
theorem small_max {s : ByteArray} (h : small s = true) : s.size ≤ maxLen := by
  unfold small at h
  unfold maxLen
  have := of_decide_eq_true h
  omega
structure OkE (e : S43) : Prop where
  w : e.f2.length ≤ 1048576
  a : e.f3.length ≤ 1048576
  k : e.f4.length ≤ 1048576
  kw : ∀ x ∈ e.f2, x.f0.size ≤ maxLen
  ka : ∀ x ∈ asked e.f3, x.size ≤ maxLen
  kk : ∀ x ∈ e.f4, x.size ≤ maxLen
theorem bound_n {n k m v : Nat} (hn : n ≤ k * 1048576) (hk : k ≤ m) (hm : m ≤ 1048576) (hw : v ≤ 1048576) : n + v < maxLen := by
  unfold maxLen
  omega
theorem bound_k {v : Nat} (hw : v ≤ 1048576) : v ≤ 9223372036854775807 := by omega
theorem okE_is {e : S43} (h : okE e = true) : OkE e := by
  unfold okE at h
  simp only [Bool.and_eq_true, decide_eq_true_eq, List.all_eq_true] at h
  obtain ⟨⟨⟨⟨⟨h1, h2⟩, h3⟩, h4⟩, h5⟩, h6⟩ := h
  refine ⟨h1, h2, h3, fun x hx => small_max (h4 x hx), fun x hx => ?_, fun x hx => small_max (h6 x hx)⟩
  obtain ⟨y, hy, rfl⟩ := List.mem_map.1 hx
  exact small_max (h5 y hy)
set_option maxHeartbeats 8000000 in
set_option maxRecDepth 100000 in
theorem ledger_Replay.calls (A0 : Option Addr) (c0 : Nat) (l0 : List (S43)) (r1 : Int) (r2 : Bool) (w : World) (hr0 : Kd.C k43 w A0 l0.length l0) (hc0 : l0.length ≤ c0) (h : ledger_Replay.f l0 = some (r1, r2)) :
    Calls Tryd.prog 35 #[.slice A0 l0.length c0] w fun e w' => e = .returned (.tuple #[.int .i64 r1, .bool r2]) ∧ Below w.heap.size w w' := by
  have hok : okL l0 = true := by
    unfold ledger_Replay.f at h
    split at h
    · assumption
    · cases h
  have hq : Aside0 (replayM 0 (fun _ => nought) l0 = (r1, r2)) := ⟨by unfold ledger_Replay.f at h; rw [if_pos hok] at h; exact Option.some.inj h⟩
  have hok2 : l0.length ≤ 1048576 ∧ ∀ e ∈ l0, OkE e := by
    unfold okL at hok
    simp only [Bool.and_eq_true, decide_eq_true_eq, List.all_eq_true] at hok
    exact ⟨hok.1, fun e he => okE_is (hok.2 e he)⟩
  obtain ⟨hlen, hev⟩ := hok2
  have HC0 := Lib.hid hc0
  clear h hok hc0
  go_enter Tryd.func35, Tryd.ntmps35
  go_wp2_with fail
  refine (atom_New _).mono ?_
  rintro e w1 ⟨rfl, hA1, hb1⟩
  go_wp2_with fail
  go_loopw [13] (fun i wr => ∃ (k n : Nat) (M : ByteArray → Had), k ≤ l0.length ∧ i = .int .i64 k ∧ n ≤ k * 1048576 ∧ AtomIs wr (w.heap.size + 1) w.heap.size n M ∧ Below w.heap.size w wr ∧ Aside0 (replayM k M (l0.drop k) = (r1, r2))) (fun i _ => l0.length - (intOf i).toNat)
  case atStart => exact ⟨0, 0, _, Nat.zero_le _, rfl, Nat.zero_le _, hA1, hb1, by rw [List.drop_zero]; exact hq⟩
  case round =>
    clear hA1 hb1 hq
    obtain ⟨k, n, M, hkl, rfl, hn, hI, hb, hq⟩ := hrel
    by_cases hlt : k < l0.length
    · obtain ⟨ad, A2, c2, A3, c3, A4, c4, e, x0, x1, x2, x3, x4, l2, g2, l3, g3, l4, g4⟩ := at_T43 hr0 k (by omega) (by omega)
      cases e
      rw [rd43 hlt] at x0 x1 x2 x3 x4 l2 g2 l3 g3 l4 g4
      replace x0 := (hb.cell (World.block_lt_of_cell? w _ x0)).trans x0
      replace x1 := (hb.cell (World.block_lt_of_cell? w _ x1)).trans x1
      replace x2 := (hb.cell (World.block_lt_of_cell? w _ x2)).trans x2
      replace x3 := (hb.cell (World.block_lt_of_cell? w _ x3)).trans x3
      replace x4 := (hb.cell (World.block_lt_of_cell? w _ x4)).trans x4
      have hE := hev _ (List.getElem_mem hlt)
      have hqs := hq.out
      rw [List.drop_eq_getElem_cons hlt, replayM] at hqs
      obtain ⟨x, hx⟩ : ∃ x, x = l0[k] := ⟨_, rfl⟩
      rw [← hx] at x0 x1 x2 x3 x4 l2 g2 l3 g3 l4 g4 hE hqs
      simp only [Int.toNat_natCast] at x0 x1 x2 x3 x4
      have Hqs := Lib.hid hqs
      clear hx hq hqs
      have HL2 := Lib.hid l2
      have HL3 := Lib.hid l3
      have HL4 := Lib.hid l4
      clear l2 l3 l4
      obtain ⟨xk, xs, xw, xa, xy⟩ := x
      have hblt := hI.lt
      have HE := Lib.hid hE
      clear hE
      have moves : ∀ (o : Obj) (W : World), (wr.alloc o).grownBy W (some w.heap.size) → Below w.heap.size w W := fun o W hg => pw_below_grown (below_alloc hb o) _ (below_alloc hb o).size hg (fun j hj => by cases hj; exact Nat.le_refl _)
      by_cases h1 : xk = 1
      · subst h1
        go_wp2_with fail
        refine (atom_Commit (w.heap.size + 1) w.heap.size n M xs _ c2 xw _ (hI.below (below_alloc (Below.refl _ _) _)) (fun W hg => Kd.C_below g2 (moves _ W hg)) HE.out.kw (bound_n hn hkl hlen HE.out.w)).mono ?_
        rintro e w2 ⟨rfl, hA2, hg2⟩
        have hb2 := moves _ _ hg2
        clear hg2 moves
        go_wp2
        go_roundw
        case rel =>
          refine ⟨k + 1, n + xw.length, _, hlt, by simp, ?_, hA2, hb2, ⟨?_⟩⟩
          · have := HE.out.w
            simp only at this
            omega
          · have h := Hqs.out
            rw [if_neg (by simp [fails])] at h
            exact h
        case measure => simp [intOf]; omega
      · by_cases h3 : xk = 3
        · subst h3
          go_wp2_with fail
          refine (atom_Forget (w.heap.size + 1) w.heap.size n M _ c4 xy _ (hI.below (below_alloc (Below.refl _ _) _)) (fun W hg => Kd.C_below g4 (moves _ W hg)) HE.out.kk (bound_k HE.out.k)).mono ?_
          rintro e w2 ⟨rfl, hA2, hg2⟩
          have hb2 := moves _ _ hg2
          clear hg2 moves
          go_wp2
          go_roundw
          case rel =>
            refine ⟨k + 1, n, _, hlt, by simp, Nat.le_trans hn (Nat.mul_le_mul_right _ (Nat.le_succ k)), hA2, hb2, ⟨?_⟩⟩
            have h := Hqs.out
            rw [if_neg (by simp [fails])] at h
            exact h
          case measure => simp [intOf]; omega
        · by_cases h2 : xk = 2
          · subst h2
            go_wp2_with fail
            obtain ⟨O, hO⟩ : ∃ O : Obj, O = Obj.cells #[.int .i64 2, .int .u32 xs, .slice A2 xw.length c2, .slice A3 xa.length c3, .slice A4 xy.length c4] 43 := ⟨_, rfl⟩
            have hI0 := hI.below (below_alloc (Below.refl _ _) O)
            have hb0 := below_alloc hb O
            have z3 : (wr.alloc O).cell? ⟨wr.heap.size, 3, none⟩ = some (.slice A3 xa.length c3) := by
              have h := Lib.cell_of_heap (heap_alloc_new wr (Obj.cells #[.int .i64 2, .int .u32 xs, .slice A2 xw.length c2, .slice A3 xa.length c3, .slice A4 xy.length c4] 43)) 3
              rw [hO, h]
              rfl
            have hz0 : wr.heap.size < (wr.alloc O).heap.size := by simp
            rw [← hO]
            clear hO moves x0 x1 x2 x3 x4 g2 g4
            generalize wr.alloc O = W0 at hI0 hb0 z3 hz0 ⊢
            have hal := HE.out.a
            simp only at hal
            obtain ⟨wo, rfl⟩ : ∃ wo : World, wo = wr := ⟨_, rfl⟩
            go_loopw [7, 39] (fun v i wi => ∃ j : Nat, j ≤ xa.length ∧ i = .int .i64 j ∧ Kd.R Kd.string 9 wi W0.heap.size (fun _ => True) v (asked (xa.take j)) ∧ Below W0.heap.size W0 wi) (fun _ i _ => xa.length - (intOf i).toNat)
            case atStart => exact ⟨0, Nat.zero_le _, rfl, Kd.R_nil _ _ _ _ _, Below.refl _ _⟩
            case round =>
              obtain ⟨j, hjl, rfl, hR, hbi⟩ := hrel
              have hbm : Below w.heap.size w wr := below_then hb0 hb0.size hbi
              by_cases hlj : j < xa.length
              · obtain ⟨ad3, e3, y0, y1, y2, y3⟩ := at_T98 g3 j (by omega) (by omega)
                cases e3
                rw [rd98 hlj] at y0 y1 y2 y3
                replace y0 := (hbm.cell (World.block_lt_of_cell? w _ y0)).trans y0
                replace y1 := (hbm.cell (World.block_lt_of_cell? w _ y1)).trans y1
                replace y2 := (hbm.cell (World.block_lt_of_cell? w _ y2)).trans y2
                replace y3 := (hbm.cell (World.block_lt_of_cell? w _ y3)).trans y3
                have hsn : asked (xa.take (j + 1)) = asked (xa.take j) ++ [xa[j].f0] := by
                  rw [List.take_succ_eq_append_getElem hlj]
                  simp only [asked, List.map_append, List.map_cons, List.map_nil]
                obtain ⟨y, hy⟩ : ∃ y, y = xa[j] := ⟨_, rfl⟩
                rw [← hy] at y0 y1 y2 y3 hsn
                simp only [Int.toNat_natCast] at y0 y1 y2 y3
                have Hsn := Lib.hid hsn
                clear hsn hy
                obtain ⟨yk, yi, yv, yf⟩ := y
                have hlen2 : (asked (xa.take j)).length ≤ 1048576 := by simp only [asked, List.length_map]; have := List.length_take_le j xa; omega
                go_wp2_with (at_builtin; refine Kd.R_append Kd.string (w0 := W0) W0.heap.size rfl (.tmp 43) (.tmp 46) 22 9 (.string ⟨#[]⟩) 16 rfl Tryd.underlying22 info9 rfl (by decide) (by omega) u7 (asked (xa.take j)) yk [.string yk] (fun _ => True) (fun _ => False) rfl (by first | (go_simp; done) | (go_simp; rfl)) rfl (fun _ hk => hk.elim) (fun _ _ => trivial) (Kd.R_alloc hR _) (below_alloc hbi _) (below_alloc hbi _).size ?aL ?_)
                case aL => omega
                intro v1 w4 hR1 hb1 _ _
                have hR2 : Kd.R Kd.string 9 w4 W0.heap.size (fun _ => True) v1 (asked (xa.take (j + 1))) := by rw [Hsn.out]; exact hR1
                clear hR hR1
                go_wp2
                go_roundw
                case rel => exact ⟨j + 1, hlj, by simp, hR2, hb1⟩
                case measure => simp [intOf]; omega
              · have hje : j = xa.length := by omega
                subst hje
                rw [List.take_length] at hR
                have hIa := hI0.below hbi
                have z4 := (hbi.cell (p := ⟨wo.heap.size, 3, none⟩) hz0).trans z3
                obtain ⟨Aa, ca, ea⟩ := Kd.R_slice hR
                subst ea
                obtain ⟨_, hca, hCa⟩ := Kd.R_reads' hR
                have hask : (asked xa).length = xa.length := by simp [asked]
                have hgl : (getM M (asked xa)).length = xa.length := by simp [asked, getM]
                have step : ∀ w3, Below wr.heap.size wr w3 → Calls Tryd.prog 76 #[.pointer (some ⟨w.heap.size + 1, 0, none⟩), .slice Aa (asked xa).length ca] w3 fun e w' => ∃ A c, e = .returned (.slice A (getM M (asked xa)).length c) ∧ ((getM M (asked xa)).length ≤ c ∧ Kd.C k98 w' A (getM M (asked xa)).length (getM M (asked xa))) ∧ Below wr.heap.size wr w' := by
                  intro w3 h3
                  refine (atom_Get _ _ n M Aa ca (asked xa) w3 (hIa.below h3) (Kd.C_below hCa h3) HE.out.ka (by omega)).mono ?_
                  rintro e w4 ⟨v, rfl, hRv, hb4⟩
                  obtain ⟨A, c, rfl⟩ := Kd.R_slice hRv
                  exact ⟨A, c, rfl, (Kd.R_reads' hRv).2, below_then h3 h3.size hb4⟩
                have step2 : ∀ w3 A c, Below wr.heap.size wr w3 → (getM M (asked xa)).length ≤ c → Kd.C k98 w3 A (getM M (asked xa)).length (getM M (asked xa)) → Calls Tryd.prog 75 #[.slice A (getM M (asked xa)).length c, .slice A3 xa.length c3] w3 fun e w' => e = .returned (.bool (sameA (getM M (asked xa)) xa)) ∧ Below wr.heap.size wr w' := by
                  intro w3 A c h3 hc hC
                  exact (api_Answer.calls (xa.length + 1) A c _ A3 c3 xa _ w3 hC hc (Kd.C_below g3 (below_then hbm hbm.size h3)) HL3.out (api_f _ _ (by omega) _ (by omega))).mono (fun e w' h => ⟨h.1, below_then h3 h3.size h.2.below⟩)
                have Hgl := Lib.hid hgl
                have Hask := Lib.hid hask
                clear hgl hask
                obtain ⟨sb, hsb⟩ : ∃ sb, sb = sameA (getM M (asked xa)) xa := ⟨_, rfl⟩
                rw [← hsb] at step2
                have Hsb := Lib.hid hsb
                clear hsb
                have zz : ∀ W, Below wr.heap.size wr W → W.cell? ⟨wo.heap.size, 3, none⟩ = some (.slice A3 xa.length c3) := fun W hW => (hW.cell (p := ⟨wo.heap.size, 3, none⟩) (Nat.lt_of_lt_of_le hz0 hbi.size)).trans z4
                go_wp2_with fail
                go_region_held3 (fun w' => w'.cell? ⟨wo.heap.size, 3, none⟩ = some (.slice A3 xa.length c3)) (exact zz _ (by first | assumption | exact Below.refl _ _ | exact (Below.refl _ _).drew | exact Below.drew (by assumption)))
                  (first | (go_at_call 76; refine (step _ (by first | assumption | exact Below.refl _ _ | exact (Below.refl _ _).drew | exact Below.drew (by assumption))).mono ?_; rintro e w4 ⟨A, c, rfl, ⟨hcc, hCC⟩, hb4⟩) | (go_at_call 75; refine (step2 _ _ _ (by assumption) (by assumption) (by assumption)).mono ?_; rintro e w5 ⟨rfl, hd⟩))
                have hbf : Below w.heap.size w w5 := below_then hbm hbm.size hd
                have hIf := hIa.below hd
                clear step step2 zz
                cases sb
                · have h := Hqs.out
                  rw [if_pos (by simp [fails, ← Hsb.out])] at h
                  simp only [Prod.mk.injEq] at h
                  obtain ⟨rfl, rfl⟩ := h
                  go_wp2
                  go_ret2
                  exact ⟨rfl, hbf⟩
                · go_wp2
                  go_roundw
                  case rel =>
                    refine ⟨k + 1, n, _, hlt, by simp, Nat.le_trans hn (Nat.mul_le_mul_right _ (Nat.le_succ k)), hIf, hbf, ⟨?_⟩⟩
                    have h := Hqs.out
                    rw [if_neg (by simp [fails, ← Hsb.out])] at h
                    exact h
                  case measure => simp [intOf]; omega
          · have t1 : (xk == 1) = false := beq_eq_false_iff_ne.2 h1
            have t3 : (xk == 3) = false := beq_eq_false_iff_ne.2 h3
            have t2 : (xk == 2) = false := beq_eq_false_iff_ne.2 h2
            have Hst : Hid (stepM ⟨xk, xs, xw, xa, xy⟩ M = M ∧ fails ⟨xk, xs, xw, xa, xy⟩ M = false) := Lib.hid ⟨by simp [stepM, h1, h3], by simp [fails, h2]⟩
            clear h1 h3 h2 moves
            go_wp2
            go_roundw
            case rel =>
              refine ⟨k + 1, n, M, hlt, by simp, Nat.le_trans hn (Nat.mul_le_mul_right _ (Nat.le_succ k)), hI.below (below_alloc (Below.refl _ _) _), below_alloc hb _, ⟨?_⟩⟩
              have h := Hqs.out
              rw [if_neg (by rw [Hst.out.2]; decide), Hst.out.1] at h
              exact h
            case measure => simp [intOf]; omega
    · have hke : k = l0.length := by omega
      subst hke
      have hqs := hq.out
      rw [List.drop_length, replayM] at hqs
      simp only [Prod.mk.injEq] at hqs
      obtain ⟨rfl, rfl⟩ := hqs
      clear hq
      go_wp2
      go_ret2
      exact ⟨rfl, hb⟩
end Go.Proofs.YtfaelejeihmgcaaDoor.Lgx
end

section
namespace Go.Proofs.YtfaelejeihmgcaaDoor.Lgx
open Go.RowKit Go.Proofs.YtfaelejeihmgcaaDoorW.PrintWords Go.Proofs.YtfaelejeihmgcaaDoorW.PrintLast Go.Proofs.YtfaelejeihmgcaaDoorW.PrintMore
attribute [local go_sem] max2_int min2_int max_two min_two max_three min_three max_four min_four   -- for this text's walks alone
set_option linter.unusedVariables false
set_option linter.unusedSimpArgs false
def cachepotlaw21_alive.f (k : Nat)  : Option (Bool) := (ledger_Replay.f (([(⟨2, 0, ([] : List (S101)), (([(⟨(⟨#[97]⟩ : ByteArray), true, (⟨#[]⟩ : ByteArray), 0⟩ : S98)] : List (S98))), ([] : List ByteArray)⟩ : S43)] : List (S43)))).bind fun bt299 => ((ledger_Line.f k 3 0 ([] : List (S101)) ([] : List (S98)) (([(⟨#[97]⟩ : ByteArray)] : List ByteArray))).bind fun t304 => (if t304.toList = ([102, 111, 114, 103, 111, 116, 32, 54, 49] : List UInt8) then (if bt299.1 = 0 then (some (!bt299.2)) else (some false)) else (some false)))
def cachepotlaw21_LedgerLines.j0 : Nat → Bool → Int → Int → List (S101) → List (S98) → List ByteArray → Option (Bool)
  | 0, _, _, _, _, _, _ => none
  | k + 1, x18, x306000, x306001, x306002, x306003, x306004 => if x18 = true then ((cachepotlaw21_alive.f k).bind fun t306 => (some t306)) else ((cachepotlaw21_alive.f k).bind fun t307 => (if t307 = true then ((ledger_Line.f k x306000 x306001 x306002 x306003 x306004).bind fun t308 => ((cachepotref3_Line.f k x306000 x306001 x306002 x306003 x306004).bind fun t309 => (some (t308.toList == t309.toList)))) else (some false)))
def cachepotlaw21_LedgerLines.f (k : Nat) (a0_0 : Int) (a0_1 : Int) (l0_2 : List (S101)) (l0_3 : List (S98)) (l0_4 : List ByteArray) : Option (Bool) := if (l0_2.length : Int) > 40 then (cachepotlaw21_LedgerLines.j0 k true a0_0 a0_1 l0_2 l0_3 l0_4) else (if (l0_3.length : Int) > 40 then (cachepotlaw21_LedgerLines.j0 k true a0_0 a0_1 l0_2 l0_3 l0_4) else (cachepotlaw21_LedgerLines.j0 k (decide ((l0_4.length : Int) > 40)) a0_0 a0_1 l0_2 l0_3 l0_4))
def cachepothand_Keys.l0 : Nat → List Int → Int → List ByteArray → Int → Option (List ByteArray)
  | 0, _, _, _, _ => none
  | k + 1, x0, x1, x5, x6 => if x6 < (x0.length : Int) then (if x6 < x1 then (if 0 ≤ x6 then ((cachepothand_Key.f (rd x0 x6)).bind fun t311 => (if x5.length < 8796093022208 then (cachepothand_Keys.l0 k x0 x1 (x5 ++ [t311]) (wrap64 (x6 + 1))) else (none))) else (none)) else (some x5)) else (some x5)
def cachepothand_Keys.f (k : Nat) (l0 : List Int) (a1 : Int) : Option (List ByteArray) := cachepothand_Keys.l0 k l0 a1 ([] : List ByteArray) 0
def cachepotref1_BatchKeys.l0 : Nat → List (S101) → List ByteArray → Int → Option (List ByteArray)
  | 0, _, _, _ => none
  | k + 1, x0, x3, x4 => if x4 < (x0.length : Int) then (if 0 ≤ x4 then (if x3.length < 8796093022208 then (cachepotref1_BatchKeys.l0 k x0 (x3 ++ [(rd_T101 x0 x4).f0]) (wrap64 (x4 + 1))) else (none)) else (none)) else ((cachepotref1_KeysSorted.f x3).bind fun t319 => (some t319))
def cachepotref1_BatchKeys.f (k : Nat) (l0 : List (S101)) : Option (List ByteArray) := cachepotref1_BatchKeys.l0 k l0 ([] : List ByteArray) 0
end Go.Proofs.YtfaelejeihmgcaaDoor.Lgx
end

section
namespace Go.Proofs.YtfaelejeihmgcaaDoor.Lgx
open Go.RowKit Go.Proofs.YtfaelejeihmgcaaDoorW.PrintWords Go.Proofs.YtfaelejeihmgcaaDoorW.PrintLast Go.Proofs.YtfaelejeihmgcaaDoorW.PrintMore
attribute [local go_sem] max2_int min2_int max_two min_two max_three min_three max_four min_four   -- for this text's walks alone
set_option linter.unusedVariables false
set_option linter.unusedSimpArgs false
def cachepotref1_BatchMake.l0 : Nat → List (S101) → List ByteArray → List (S101) → Int → Option ((List (S101)))
  | 0, _, _, _, _ => none
  | k + 1, x0, x3, x4, x5 => if x5 < (x3.length : Int) then (if 0 ≤ x5 then ((cachepotref1_BatchFind.f k x0 (rdOf ByteArray.empty x3 x5)).bind fun bt326 => (if bt326.2.1 = true then (if x4.length < 3518437208883 then (cachepotref1_BatchMake.l0 k x0 x3 (x4 ++ [(⟨bt326.1, bt326.2.1, (⟨#[]⟩ : ByteArray)⟩ : S101)]) (wrap64 (x5 + 1))) else (none)) else (if x4.length < 3518437208883 then (cachepotref1_BatchMake.l0 k x0 x3 (x4 ++ [(⟨bt326.1, bt326.2.1, bt326.2.2.1⟩ : S101)]) (wrap64 (x5 + 1))) else (none)))) else (none)) else (some x4)
def cachepotref1_BatchMake.f (k : Nat) (l0 : List (S101)) : Option ((List (S101))) := (cachepotref1_BatchKeys.f k l0).bind fun t322 => (cachepotref1_BatchMake.l0 k l0 t322 ([] : List (S101)) 0)
end Go.Proofs.YtfaelejeihmgcaaDoor.Lgx
end

section
namespace Go.Proofs.YtfaelejeihmgcaaDoor.Lgx
open Go.RowKit Go.Proofs.YtfaelejeihmgcaaDoorW.PrintWords Go.Proofs.YtfaelejeihmgcaaDoorW.PrintLast Go.Proofs.YtfaelejeihmgcaaDoorW.PrintMore
attribute [local go_sem] max2_int min2_int max_two min_two max_three min_three max_four min_four   -- for this text's walks alone
set_option linter.unusedVariables false
set_option linter.unusedSimpArgs false
mutual
def cachepothand_Writes.l0 : Nat → List (S139) → Int → List (S101) → Int → Option ((List (S101)))
  | 0, _, _, _, _ => none
  | k + 1, x0, x1, x5, x6 => if x6 < (x0.length : Int) then (cachepothand_Writes.j1 k x0 x1 x5 x6 (decide (x6 < x1))) else (cachepothand_Writes.j1 k x0 x1 x5 x6 false)
def cachepothand_Writes.j1 : Nat → List (S139) → Int → List (S101) → Int → Bool → Option ((List (S101)))
  | 0, _, _, _, _, _ => none
  | k + 1, x0, x1, x5, x6, x16 => if x16 = true then (if 0 ≤ x6 then (if x6 < (x0.length : Int) then ((cachepothand_Key.f ((rd_T139 x0 x6).f0)).bind fun t347 => (if ((rd_T139 x0 x6).f1 = true) then (if x5.length < 3518437208883 then (cachepothand_Writes.l0 k x0 x1 (x5 ++ [(⟨t347, (rd_T139 x0 x6).f1, (⟨#[]⟩ : ByteArray)⟩ : S101)]) (wrap64 (x6 + 1))) else (none)) else ((cachepothand_Val.f k ((rd_T139 x0 x6).f2) (wrap64 (Int.tdiv ((rd_T139 x0 x6).f0) 12))).bind fun t355 => (if x5.length < 3518437208883 then (cachepothand_Writes.l0 k x0 x1 (x5 ++ [(⟨t347, (rd_T139 x0 x6).f1, t355⟩ : S101)]) (wrap64 (x6 + 1))) else (none))))) else (none)) else (none)) else (if (x5.length : Int) = 0 then ((cachepotref1_BatchMake.f k (([(⟨(⟨#[97]⟩ : ByteArray), false, (⟨#[49]⟩ : ByteArray)⟩ : S101)] : List (S101)))).bind fun t340 => (some t340)) else ((cachepotref1_BatchMake.f k x5).bind fun t343 => (some t343)))
end
def cachepothand_Writes.f (k : Nat) (l0 : List (S139)) (a1 : Int) : Option ((List (S101))) := cachepothand_Writes.l0 k l0 a1 ([] : List (S101)) 0
def cachepothand_Writes.T5 : Bool × List (List Nat × List Nat) := (true, [([], []), ([], []), ([0, 1], [0, 1]), ([2], [2]), ([3], [3]), ([4], [4]), ([], []), ([], []), ([6, 7], [6, 7]), ([8], [8]), ([9], [9]), ([5, 10], [5, 10]), ([], []), ([12, 11, 5, 0, 1, 2, 3, 4, 5, 6, 7, 8, 9, 10, 11, 12], [11, 12])])
def cachepothand_Writes.B5 : List Nat := [0, 0, 3, 7, 15, 31, 0, 0, 192, 448, 960, 2047, 0, 8191]
theorem cachepothand_Writes.tab5 : rtab .any (opsOf Tryd.f69 5) = cachepothand_Writes.T5 := by kernel_rfl
theorem cachepothand_Writes.bits5 : waitsOk cachepothand_Writes.T5.2 cachepothand_Writes.B5 = true := by kernel_rfl
end Go.Proofs.YtfaelejeihmgcaaDoor.Lgx
end

section
namespace Go.Proofs.YtfaelejeihmgcaaDoor.Lgx
open Go.RowKit Go.Proofs.YtfaelejeihmgcaaDoorW.PrintWords Go.Proofs.YtfaelejeihmgcaaDoorW.PrintLast
def pickI (n m : Int) : Int := if Int.tmod n m < 0 then Int.tmod n m + m else Int.tmod n m
theorem pickI_f (n m : Int) (h0 : 0 < m) (h1 : m ≤ 9223372036854775807) : cachepotbook_Pick.f n m = some (pickI n m) := by
  have hb : Int.tmod n m < m ∧ -m < Int.tmod n m := ⟨Int.tmod_lt_of_pos n h0, Int.lt_tmod_of_pos n h0⟩
  unfold cachepotbook_Pick.f pickI
  rw [if_neg (by omega)]
  split
  · rw [show wrap64 (Int.tmod n m + m) = Int.tmod n m + m by unfold wrap64; omega]
  · rfl
end Go.Proofs.YtfaelejeihmgcaaDoor.Lgx
end

section
namespace Go.Proofs.YtfaelejeihmgcaaDoor.Lgx
open Go.RowKit Go.Proofs.YtfaelejeihmgcaaDoorW.PrintWords Go.Proofs.YtfaelejeihmgcaaDoorW.PrintLast
theorem w64s (x : Int) (h0 : -9223372036854775808 ≤ x) (h1 : x ≤ 9223372036854775807) : wrap64 x = x := by unfold wrap64; omega
theorem le_snoc {α : Type} {l : List α} {x : α} {P : α → Prop} (h : ∀ y ∈ l, P y) (hx : P x) : ∀ y ∈ l ++ [x], P y := fun y hy => by
  rcases List.mem_append.1 hy with h' | h'
  · exact h y h'
  · rw [List.mem_singleton.1 h']; exact hx
theorem len_snoc {α : Type} (l : List α) (x : α) : (l ++ [x]).length = l.length + 1 := by simp
theorem mn_in (a b : Int) (h0 : 0 ≤ a) (h1 : 0 ≤ b) : 0 ≤ mn a b ∧ mn a b ≤ a ∧ mn a b ≤ b := by
  unfold mn
  split <;> omega
theorem short_ok (s : ByteArray) (n : Int) (h0 : 0 ≤ n) : ∃ r, cachepotbook_Short.f s n = some r ∧ (r.size : Int) ≤ n := by
  obtain ⟨h1, h2, h3⟩ := mn_in (s.size : Int) n (by omega) h0
  unfold cachepotbook_Short.f
  rw [if_pos h1, if_pos h2]
  exact ⟨_, rfl, by rw [ByteArray.size_extract]; omega⟩
theorem texts_l0 (l : List ByteArray) (m n : Int) (hm : m ≤ 1000) (hn : 0 ≤ n) : ∀ (d k i : Nat) (acc : List ByteArray), (m - i).toNat = d → d < k → acc.length ≤ i → (i : Int) ≤ m → (∀ y ∈ acc, (y.size : Int) ≤ n) →
    ∃ r, cachepotbook_Texts.l0 k l m n acc (i : Int) = some r ∧ (r.length : Int) ≤ m ∧ ∀ y ∈ r, (y.size : Int) ≤ n := by
  intro d
  induction d with
  | zero =>
    intro k i acc hd hk ha hi hs
    obtain ⟨k, rfl⟩ : ∃ m, k = m + 1 := ⟨k - 1, by omega⟩
    simp only [cachepotbook_Texts.l0]
    by_cases h1 : (i : Int) < l.length
    · rw [if_pos h1, if_neg (by omega)]
      exact ⟨acc, rfl, by omega, hs⟩
    · rw [if_neg h1]
      exact ⟨acc, rfl, by omega, hs⟩
  | succ d ih =>
    intro k i acc hd hk ha hi hs
    obtain ⟨k, rfl⟩ : ∃ m, k = m + 1 := ⟨k - 1, by omega⟩
    simp only [cachepotbook_Texts.l0]
    by_cases h1 : (i : Int) < l.length
    · obtain ⟨r, hr, hr2⟩ := short_ok (rdOf ByteArray.empty l (i : Int)) n hn
      rw [if_pos h1, if_pos (by omega), if_pos (by omega), hr]
      simp only [Option.bind_some]
      rw [if_pos (by omega), w64s _ (by omega) (by omega)]
      exact ih k (i + 1) (acc ++ [r]) (by omega) (by omega) (by rw [len_snoc]; omega) (by omega) (le_snoc hs hr2)
    · rw [if_neg h1]
      exact ⟨acc, rfl, by omega, hs⟩
theorem texts_ok (l : List ByteArray) (k : Nat) (hk : 10 ≤ k) : ∃ r, cachepotbook_Texts.f k l 6 40 = some r ∧ r.length ≤ 6 ∧ ∀ y ∈ r, y.size ≤ 40 := by
  obtain ⟨r, h1, h2, h3⟩ := texts_l0 l 6 40 (by decide) (by decide) 6 k 0 [] (by decide) (by omega) (by simp) (by decide) (fun y hy => by simp at hy)
  exact ⟨r, h1, by omega, fun y hy => by have := h3 y hy; omega⟩
theorem bwrites_l0 (l : List S101) : ∀ (d k i : Nat) (acc : List S101), 6 - i = d → 2 * d + 1 < k → acc.length ≤ i → i ≤ 6 → (∀ y ∈ acc, y.f0.size ≤ 60 ∧ y.f2.size ≤ 60) →
    ∃ r, cachepotbook_Writes.l0 k l 6 acc (i : Int) = some r ∧ r.length ≤ 6 ∧ ∀ y ∈ r, y.f0.size ≤ 60 ∧ y.f2.size ≤ 60 := by
  intro d
  induction d with
  | zero =>
    intro k i acc hd hk ha hi hs
    obtain ⟨k, rfl⟩ : ∃ m, k = m + 2 := ⟨k - 2, by omega⟩
    simp only [cachepotbook_Writes.l0]
    by_cases h1 : (i : Int) < l.length
    · rw [if_pos h1, decide_eq_false (by omega)]
      simp only [cachepotbook_Writes.j1]
      rw [if_neg (by decide)]
      exact ⟨acc, rfl, by omega, hs⟩
    · rw [if_neg h1]
      simp only [cachepotbook_Writes.j1]
      rw [if_neg (by decide)]
      exact ⟨acc, rfl, by omega, hs⟩
  | succ d ih =>
    intro k i acc hd hk ha hi hs
    obtain ⟨k, rfl⟩ : ∃ m, k = m + 2 := ⟨k - 2, by omega⟩
    simp only [cachepotbook_Writes.l0]
    by_cases h1 : (i : Int) < l.length
    · obtain ⟨r, hr, hr2⟩ := short_ok (rd_T101 l (i : Int)).f0 60 (by decide)
      obtain ⟨q, hq, hq2⟩ := short_ok (rd_T101 l (i : Int)).f2 60 (by decide)
      rw [if_pos h1, decide_eq_true (by omega)]
      simp only [cachepotbook_Writes.j1]
      rw [if_pos trivial, if_pos (by omega), if_pos h1, hr]
      simp only [Option.bind_some]
      rw [hq]
      simp only [Option.bind_some]
      rw [if_pos (by omega), w64s _ (by omega) (by omega)]
      exact ih k (i + 1) (acc ++ [⟨r, (rd_T101 l (i : Int)).f1, q⟩]) (by omega) (by omega) (by rw [len_snoc]; omega) (by omega) (le_snoc hs ⟨by simp only; omega, by simp only; omega⟩)
    · rw [if_neg h1]
      simp only [cachepotbook_Writes.j1]
      rw [if_neg (by decide)]
      exact ⟨acc, rfl, by omega, hs⟩
theorem bwrites_ok (l : List S101) (k : Nat) (hk : 20 ≤ k) : ∃ r, cachepotbook_Writes.f k l 6 = some r ∧ r.length ≤ 6 ∧ ∀ y ∈ r, y.f0.size ≤ 60 ∧ y.f2.size ≤ 60 :=
  bwrites_l0 l 6 k 0 [] (by decide) (by omega) (by simp) (by decide) (fun y hy => by simp at hy)
/-- an answer of few bytes -/
def AnsB (V : Nat) (y : S98) : Prop := y.f0.size ≤ 60 ∧ y.f2.size ≤ V ∧ 0 ≤ y.f3 ∧ y.f3 ≤ 4294967295
theorem rd98_any (l : List S98) (i : Int) : rd_T98 l i ∈ l ∨ rd_T98 l i = z98 := by
  unfold rd_T98
  rw [List.getD_eq_getElem?_getD]
  cases h : l[i.toNat]? with
  | none => exact .inr rfl
  | some x => exact .inl (List.mem_of_getElem? h)
theorem short_l0 (l : List S98) (t s : Int) (W : List S101) (T : List ByteArray) (hu : ∀ y ∈ l, 0 ≤ y.f3 ∧ y.f3 ≤ 4294967295) : ∀ (d k i : Nat) (acc : List S98), 6 - i = d → 2 * d + 1 < k → acc.length ≤ i → i ≤ 6 → (∀ y ∈ acc, AnsB 60 y) →
    ∃ r, cachepotlaw21_short.l0 k acc (i : Int) t s W l T = some (t, s, W, r, T) ∧ r.length ≤ 6 ∧ ∀ y ∈ r, AnsB 60 y := by
  intro d
  induction d with
  | zero =>
    intro k i acc hd hk ha hi hs
    obtain ⟨k, rfl⟩ : ∃ m, k = m + 2 := ⟨k - 2, by omega⟩
    simp only [cachepotlaw21_short.l0]
    by_cases h1 : (i : Int) < l.length
    · rw [if_pos h1, decide_eq_false (by omega)]
      simp only [cachepotlaw21_short.j1]
      rw [if_neg (by decide)]
      exact ⟨acc, rfl, by omega, hs⟩
    · rw [if_neg h1]
      simp only [cachepotlaw21_short.j1]
      rw [if_neg (by decide)]
      exact ⟨acc, rfl, by omega, hs⟩
  | succ d ih =>
    intro k i acc hd hk ha hi hs
    obtain ⟨k, rfl⟩ : ∃ m, k = m + 2 := ⟨k - 2, by omega⟩
    simp only [cachepotlaw21_short.l0]
    by_cases h1 : (i : Int) < l.length
    · obtain ⟨r, hr, hr2⟩ := short_ok (rd_T98 l (i : Int)).f0 40 (by decide)
      obtain ⟨q, hq, hq2⟩ := short_ok (rd_T98 l (i : Int)).f2 40 (by decide)
      have hf : 0 ≤ (rd_T98 l (i : Int)).f3 ∧ (rd_T98 l (i : Int)).f3 ≤ 4294967295 := by
        rcases rd98_any l i with h | h
        · exact hu _ h
        · rw [h]; exact ⟨by decide, by decide⟩
      rw [if_pos h1, decide_eq_true (by omega)]
      simp only [cachepotlaw21_short.j1]
      rw [if_pos trivial, if_pos (by omega), if_pos h1, hr]
      simp only [Option.bind_some]
      rw [hq]
      simp only [Option.bind_some]
      rw [if_pos (by omega), w64s _ (by omega) (by omega)]
      exact ih k (i + 1) (acc ++ [⟨r, (rd_T98 l (i : Int)).f1, q, (rd_T98 l (i : Int)).f3⟩]) (by omega) (by omega) (by rw [len_snoc]; omega) (by omega) (le_snoc hs ⟨by simp only; omega, by simp only; omega, hf⟩)
    · rw [if_neg h1]
      simp only [cachepotlaw21_short.j1]
      rw [if_neg (by decide)]
      exact ⟨acc, rfl, by omega, hs⟩
/-- an event of few things of few bytes -/
structure EvB (V : Nat) (e : S43) : Prop where
  q0 : 0 ≤ e.f1
  q1 : e.f1 ≤ 4294967295
  n2 : e.f2.length ≤ 6
  s2 : ∀ y ∈ e.f2, y.f0.size ≤ 60 ∧ y.f2.size ≤ 60
  n3 : e.f3.length ≤ 6
  s3 : ∀ y ∈ e.f3, AnsB V y
  n4 : e.f4.length ≤ 6
  s4 : ∀ y ∈ e.f4, y.size ≤ 60
/-- what an event that is made short must keep -/
def EvU (e : S43) : Prop := 0 ≤ e.f1 ∧ e.f1 ≤ 4294967295 ∧ ∀ y ∈ e.f3, 0 ≤ y.f3 ∧ y.f3 ≤ 4294967295
theorem short_ev (e : S43) (hu : EvU e) (k : Nat) (hk : 30 ≤ k) : ∃ r, cachepotlaw21_short.f k e.f0 e.f1 e.f2 e.f3 e.f4 = some r ∧ EvB 60 ⟨r.1, r.2.1, r.2.2.1, r.2.2.2.1, r.2.2.2.2⟩ := by
  obtain ⟨w, hw, w1, w2⟩ := bwrites_ok e.f2 k (by omega)
  obtain ⟨t, ht, t1, t2⟩ := texts_ok e.f4 k (by omega)
  obtain ⟨a, ha, a1, a2⟩ := short_l0 e.f3 (pickI e.f0 5) e.f1 w t hu.2.2 6 k 0 [] (by decide) (by omega) (by simp) (by decide) (fun y hy => by simp at hy)
  refine ⟨(pickI e.f0 5, e.f1, w, a, t), ?_, ⟨hu.1, hu.2.1, w1, w2, a1, a2, t1, fun y hy => Nat.le_trans (t2 y hy) (by decide)⟩⟩
  unfold cachepotlaw21_short.f
  rw [pickI_f _ _ (by decide) (by decide)]
  simp only [Option.bind_some]
  rw [hw]
  simp only [Option.bind_some]
  rw [ht]
  simp only [Option.bind_some]
  exact ha
/-- a write of few bytes -/
def WrB (y : S101) : Prop := y.f0.size ≤ 60 ∧ y.f2.size ≤ 60
end Go.Proofs.YtfaelejeihmgcaaDoor.Lgx
end

section
namespace Go.Proofs.YtfaelejeihmgcaaDoor.Lgx
open Go.RowKit Go.Proofs.YtfaelejeihmgcaaDoorW.PrintWords Go.Proofs.YtfaelejeihmgcaaDoorW.PrintLast
theorem ref_l0 (x y : List S98) (hlen : x.length = y.length) (hb : x.length ≤ 9223372036854775806) : ∀ (d k j : Nat), x.length - j = d → j ≤ x.length → d < k → cachepotref3_SameAnswers.l0 k x y (j : Int) = some (sameA (x.drop j) (y.drop j)) := by
  intro d
  induction d with
  | zero =>
    intro k j hd hj hk
    obtain ⟨k, rfl⟩ : ∃ m, k = m + 1 := ⟨k - 1, by omega⟩
    rw [List.drop_eq_nil_of_le (by omega), List.drop_eq_nil_of_le (by omega)]
    simp only [cachepotref3_SameAnswers.l0]
    rw [if_neg (by omega)]
    rfl
  | succ d ih =>
    intro k j hd hj hk
    obtain ⟨k, rfl⟩ : ∃ m, k = m + 1 := ⟨k - 1, by omega⟩
    have h1 : j < x.length := by omega
    have h2 : j < y.length := by omega
    have hi := ih k (j + 1) (by omega) (by omega) (by omega)
    rw [List.drop_eq_getElem_cons h1, List.drop_eq_getElem_cons h2]
    simp only [cachepotref3_SameAnswers.l0]
    rw [if_pos (by omega), if_pos (by omega), if_pos (by omega), rd98 h1, rd98 h2, w64 _ (by omega) (by omega)]
    show (if neA x[j] y[j] = true then some false else _) = _
    simp only [sameA]
    cases neA x[j] y[j]
    · rw [if_neg (by decide)]
      exact hi
    · rw [if_pos rfl]
      rfl
theorem ref_f (x y : List S98) (hb : x.length ≤ 9223372036854775806) (k : Nat) (hk : x.length < k) : cachepotref3_SameAnswers.f k x y = some (sameA x y) := by
  unfold cachepotref3_SameAnswers.f
  by_cases h : x.length = y.length
  · rw [if_pos (by omega)]
    exact ref_l0 x y h hb x.length k 0 (by omega) (by omega) hk
  · rw [if_neg (by omega), sameA_ne x y h]
end Go.Proofs.YtfaelejeihmgcaaDoor.Lgx
end

section
namespace Go.Proofs.YtfaelejeihmgcaaDoor.Lgx
open Go.RowKit Go.Proofs.YtfaelejeihmgcaaDoorW.PrintWords Go.Proofs.YtfaelejeihmgcaaDoorW.PrintLast
def stepR (e : S43) (L : List S98) : List S98 := if e.f0 = 1 then commitF e.f1 e.f2 L else if e.f0 = 3 then forgetF e.f4 L else L
def failsR (e : S43) (L : List S98) : Bool := decide (e.f0 = 2) && !sameA (refGetF L (asked e.f3)) e.f3
def replayR : Nat → List S98 → List S43 → Int × Bool
  | i, _, [] => ((i : Int), true)
  | i, L, e :: l => if failsR e L = true then ((i : Int), false) else replayR (i + 1) (stepR e L) l
def writesN (l : List S43) : Nat := (l.map fun e => e.f2.length).sum
def okR (l : List S43) : Bool := okL l && (decide (writesN l ≤ 1048576) && l.all fun e => e.f2.all fun x => decide (x.f0.size ≤ 1099511627776))
def cachepotref3_Replay.f (l0 : List S43) : Option (Int × Bool) := if okR l0 = true then some (replayR 0 [] l0) else none
theorem short_forgetF (l : List ByteArray) : ∀ {L : List S98}, Short98 L → Short98 (forgetF l L) := by
  induction l with
  | nil => intro L h; exact h
  | cons k l ih => intro L h; exact ih (short_without h)
set_option maxHeartbeats 8000000 in
set_option maxRecDepth 100000 in
theorem cachepotref3_Replay.calls (A0 : Option Addr) (c0 : Nat) (l0 : List (S43)) (r1 : Int) (r2 : Bool) (w : World) (hr0 : Kd.C k43 w A0 l0.length l0) (hc0 : l0.length ≤ c0) (h : cachepotref3_Replay.f l0 = some (r1, r2)) :
    Calls Tryd.prog 36 #[.slice A0 l0.length c0] w fun e w' => e = .returned (.tuple #[.int .i64 r1, .bool r2]) ∧ Below w.heap.size w w' := by
  have hok : okR l0 = true := by
    unfold cachepotref3_Replay.f at h
    split at h
    · assumption
    · cases h
  have hq : Aside0 (replayR 0 [] l0 = (r1, r2)) := ⟨by unfold cachepotref3_Replay.f at h; rw [if_pos hok] at h; exact Option.some.inj h⟩
  have hok2 : l0.length ≤ 1048576 ∧ (∀ e ∈ l0, OkE e) ∧ writesN l0 ≤ 1048576 ∧ (∀ e ∈ l0, ∀ x ∈ e.f2, x.f0.size ≤ 1099511627776) := by
    unfold okR okL at hok
    simp only [Bool.and_eq_true, decide_eq_true_eq, List.all_eq_true] at hok
    exact ⟨hok.1.1, fun e he => okE_is (hok.1.2 e he), hok.2.1, hok.2.2⟩
  obtain ⟨hlen, hev, hwn, hsh⟩ := hok2
  have HC0 := Lib.hid hc0
  clear h hok hc0
  go_enter Tryd.func36, Tryd.ntmps36
  go_wp2
  have hb1 := below_alloc (Below.refl _ w) (.cells #[.slice none 0 0] 104)
  have hA1 : RefIs (w.alloc (.cells #[.slice none 0 0] 104)) w.heap.size w.heap.size (.slice none 0 0) [] := ⟨heap_alloc_new w _, Kd.R_nil _ _ _ _ _, Nat.le_refl _⟩
  generalize w.alloc (.cells #[.slice none 0 0] 104) = w1 at hb1 hA1 ⊢
  go_loopw [5] (fun i wr => ∃ (k : Nat) (v : Value) (L : List S98), k ≤ l0.length ∧ i = .int .i64 k ∧ L.length + writesN (l0.drop k) ≤ 1048576 ∧ Short98 L ∧ RefIs wr w.heap.size w.heap.size v L ∧ Below w.heap.size w wr ∧ Aside0 (replayR k L (l0.drop k) = (r1, r2))) (fun i _ => l0.length - (intOf i).toNat)
  case atStart => exact ⟨0, _, [], Nat.zero_le _, rfl, by rw [List.drop_zero]; simpa using hwn, fun _ h => absurd h (List.not_mem_nil), hA1, hb1, by rw [List.drop_zero]; exact hq⟩
  case round =>
    clear hA1 hb1 hq
    obtain ⟨k, v, L, hkl, rfl, hn, hs, hI, hb, hq⟩ := hrel
    by_cases hlt : k < l0.length
    · obtain ⟨ad, A2, c2, A3, c3, A4, c4, e, x0, x1, x2, x3, x4, l2, g2, l3, g3, l4, g4⟩ := at_T43 hr0 k (by omega) (by omega)
      cases e
      rw [rd43 hlt] at x0 x1 x2 x3 x4 l2 g2 l3 g3 l4 g4
      replace x0 := (hb.cell (World.block_lt_of_cell? w _ x0)).trans x0
      have x1w := x1
      have x2w := x2
      have x3w := x3
      replace x1 := (hb.cell (World.block_lt_of_cell? w _ x1)).trans x1
      replace x2 := (hb.cell (World.block_lt_of_cell? w _ x2)).trans x2
      replace x3 := (hb.cell (World.block_lt_of_cell? w _ x3)).trans x3
      replace x4 := (hb.cell (World.block_lt_of_cell? w _ x4)).trans x4
      have hE := hev _ (List.getElem_mem hlt)
      have hSh := hsh _ (List.getElem_mem hlt)
      have hqs := hq.out
      rw [List.drop_eq_getElem_cons hlt] at hqs hn
      rw [replayR] at hqs
      have hn2 : L.length + l0[k].f2.length + writesN (l0.drop (k + 1)) ≤ 1048576 := by
        simp only [writesN, List.map_cons, List.sum_cons] at hn ⊢
        omega
      obtain ⟨x, hx⟩ : ∃ x, x = l0[k] := ⟨_, rfl⟩
      rw [← hx] at x0 x1 x2 x3 x4 l2 g2 l3 g3 l4 g4 hE hqs hSh hn2 x1w x2w x3w
      simp only [Int.toNat_natCast] at x0 x1 x2 x3 x4 x1w x2w x3w
      have Hqs := Lib.hid hqs
      have Hn2 := Lib.hid hn2
      clear hx hq hqs hn hn2
      have HL2 := Lib.hid l2
      have HL3 := Lib.hid l3
      have HL4 := Lib.hid l4
      clear l2 l3 l4
      obtain ⟨xk, xs, xw, xa, xy⟩ := x
      have hblt := hI.lt
      have HE := Lib.hid hE
      have HSh := Lib.hid hSh
      clear hE hSh
      have moves : ∀ (W0 W : World), Below wr.heap.size wr W0 → W0.grownBy W (some w.heap.size) → Below w.heap.size w W := fun W0 W h0 hg => pw_below_grown (below_then hb hb.size h0) _ (below_then hb hb.size h0).size hg (fun j hj => by cases hj; exact Nat.le_refl _)
      by_cases h1 : xk = 1
      · subst h1
        have hcall : ∀ W0, Below wr.heap.size wr W0 → Calls Tryd.prog 70 #[.pointer (some ⟨w.heap.size, 0, none⟩), .int .u32 xs, .slice A2 xw.length c2] W0 fun e w' => e = .returned (.tuple #[]) ∧ ∃ v', RefIs w' w.heap.size w.heap.size v' (commitF xs xw L) ∧ Below w.heap.size w w' := fun W0 h0 =>
          (ref_Commit w.heap.size w.heap.size v L xs A2 c2 xw W0 (hI.below h0) (fun W hg => Kd.C_below g2 (moves W0 W h0 hg)) (by have := Hn2.out; simp only at this; omega) hs HSh.out).mono fun e w' ⟨he, v', hR, hg⟩ => ⟨he, v', hR, moves W0 w' h0 hg⟩
        have zz : ∀ W, Below wr.heap.size wr W → W.cell? ⟨(ad.add (k * 5)).block, (ad.add (k * 5)).off + 1, none⟩ = some (.int .u32 xs) ∧ W.cell? ⟨(ad.add (k * 5)).block, (ad.add (k * 5)).off + 2, none⟩ = some (.slice A2 xw.length c2) := fun W hW => ⟨(hW.cell (World.block_lt_of_cell? wr _ x1)).trans x1, (hW.cell (World.block_lt_of_cell? wr _ x2)).trans x2⟩
        have zz2 : ∀ W, Below w.heap.size w W → W.cell? ⟨(ad.add (k * 5)).block, (ad.add (k * 5)).off + 1, none⟩ = some (.int .u32 xs) ∧ W.cell? ⟨(ad.add (k * 5)).block, (ad.add (k * 5)).off + 2, none⟩ = some (.slice A2 xw.length c2) := fun W hW => ⟨(hW.cell (World.block_lt_of_cell? w _ x1w)).trans x1w, (hW.cell (World.block_lt_of_cell? w _ x2w)).trans x2w⟩
        go_wp2_with fail
        go_region_held3 (fun W => W.cell? ⟨(ad.add (k * 5)).block, (ad.add (k * 5)).off + 1, none⟩ = some (.int .u32 xs) ∧ W.cell? ⟨(ad.add (k * 5)).block, (ad.add (k * 5)).off + 2, none⟩ = some (.slice A2 xw.length c2)) (first | exact zz _ (by first | assumption | exact Below.refl _ _ | exact below_drew (Below.refl _ _)) | exact zz2 _ (by assumption))
          ((go_at_call 70; refine (hcall _ (by first | assumption | exact Below.refl _ _ | exact below_drew (Below.refl _ _))).mono ?_; rintro e w2 ⟨rfl, v2, hA2, hb2⟩))
        all_goals (
          clear hcall zz zz2 moves
          go_wp2
          go_roundw
          case rel =>
            refine ⟨k + 1, v2, _, hlt, by simp, ?_, short_commitF _ HSh.out hs, hA2, hb2, ⟨?_⟩⟩
            · have := Hn2.out
              have h2 := commitF_len xs xw L
              omega
            · have h := Hqs.out
              rw [if_neg (by simp [failsR])] at h
              exact h
          case measure => simp [intOf]; omega)
      · by_cases h3 : xk = 3
        · subst h3
          go_wp2_with fail
          refine (ref_Forget w.heap.size w.heap.size v L A4 c4 xy _ hI (fun W hg => Kd.C_below g4 (moves wr W (Below.refl _ _) hg)) (by have := Hn2.out; omega) HE.out.k).mono ?_
          rintro e w2 ⟨rfl, v2, hA2, hg2⟩
          have hb2 := moves _ _ (Below.refl _ _) hg2
          clear hg2 moves
          go_wp2
          go_roundw
          case rel =>
            refine ⟨k + 1, v2, _, hlt, by simp, ?_, short_forgetF _ hs, hA2, hb2, ⟨?_⟩⟩
            · have := Hn2.out
              have h2 := forgetF_len xy L
              omega
            · have h := Hqs.out
              rw [if_neg (by simp [failsR])] at h
              exact h
          case measure => simp [intOf]; omega
        · by_cases h2 : xk = 2
          · subst h2
            go_wp2_with fail
            obtain ⟨Av, cv, ev⟩ := Kd.R_slice hI.row
            subst ev
            have hLn : L.length ≤ 1048576 := by have := Hn2.out; omega
            have hal := HE.out.a
            simp only at hal
            clear moves x0 x1 x2 x4 g2 g4 x1w x2w x3w
            obtain ⟨wo, rfl⟩ : ∃ wo : World, wo = wr := ⟨_, rfl⟩
            go_loopw [6, 7] (fun v i wi => ∃ j : Nat, j ≤ xa.length ∧ i = .int .i64 j ∧ Kd.R Kd.string 9 wi wo.heap.size (fun _ => True) v (asked (xa.take j)) ∧ Below wo.heap.size wo wi) (fun _ i _ => xa.length - (intOf i).toNat)
            case atStart => exact ⟨0, Nat.zero_le _, rfl, Kd.R_nil _ _ _ _ _, Below.refl _ _⟩
            case round =>
              obtain ⟨j, hjl, rfl, hR, hbi⟩ := hrel
              have hbm : Below w.heap.size w wr := below_then hb hb.size hbi
              have x3i := (hbi.cell (World.block_lt_of_cell? wo _ x3)).trans x3
              by_cases hlj : j < xa.length
              · obtain ⟨ad3, e3, y0, y1, y2, y3⟩ := at_T98 g3 j (by omega) (by omega)
                cases e3
                rw [rd98 hlj] at y0 y1 y2 y3
                replace y0 := (hbm.cell (World.block_lt_of_cell? w _ y0)).trans y0
                clear y1 y2 y3
                have hsn : asked (xa.take (j + 1)) = asked (xa.take j) ++ [xa[j].f0] := by
                  rw [List.take_succ_eq_append_getElem hlj]
                  simp only [asked, List.map_append, List.map_cons, List.map_nil]
                obtain ⟨y, hy⟩ : ∃ y, y = xa[j] := ⟨_, rfl⟩
                rw [← hy] at y0 hsn
                simp only [Int.toNat_natCast] at y0
                have Hsn := Lib.hid hsn
                clear hsn hy
                obtain ⟨yk, yi, yv, yf⟩ := y
                have hlen2 : (asked (xa.take j)).length ≤ 1048576 := by simp only [asked, List.length_map]; have := List.length_take_le j xa; omega
                go_wp2_with (at_builtin; refine Kd.R_append Kd.string (w0 := wo) wo.heap.size rfl (.tmp 56) (.tmp 66) 22 9 (.string ⟨#[]⟩) 16 rfl Tryd.underlying22 info9 rfl (by decide) (by omega) u6 (asked (xa.take j)) yk [.string yk] (fun _ => True) (fun _ => False) rfl (by first | (go_simp; done) | (go_simp; rfl)) rfl (fun _ hk => hk.elim) (fun _ _ => trivial) hR hbi hbi.size ?aL ?_)
                case aL => omega
                intro v1 w4 hR1 hb1 _ _
                have hR2 : Kd.R Kd.string 9 w4 wo.heap.size (fun _ => True) v1 (asked (xa.take (j + 1))) := by rw [Hsn.out]; exact hR1
                clear hR hR1
                go_wp2
                go_roundw
                case rel => exact ⟨j + 1, hlj, by simp, hR2, hb1⟩
                case measure => simp [intOf]; omega
              · have hje : j = xa.length := by omega
                subst hje
                rw [List.take_length] at hR
                have hIa := hI.below hbi
                obtain ⟨Aa, ca, ea⟩ := Kd.R_slice hR
                subst ea
                obtain ⟨_, hca, hCa⟩ := Kd.R_reads' hR
                have hask : (asked xa).length = xa.length := by simp [asked]
                have hgl : (refGetF L (asked xa)).length = xa.length := by simp [asked, refGetF]
                have step : ∀ w3, Below wr.heap.size wr w3 → Calls Tryd.prog 68 #[.pointer (some ⟨w.heap.size, 0, none⟩), .slice Aa (asked xa).length ca] w3 fun e w' => ∃ A c, e = .returned (.slice A (refGetF L (asked xa)).length c) ∧ ((refGetF L (asked xa)).length ≤ c ∧ Kd.C k98 w' A (refGetF L (asked xa)).length (refGetF L (asked xa))) ∧ Below wr.heap.size wr w' := by
                  intro w3 h3
                  have hI3 := hIa.below h3
                  refine (ref_Get w.heap.size Av cv L Aa ca (asked xa) w3 hI3.cell0 (Kd.R_reads' hI3.row).2.2 (Kd.C_below hCa h3) hLn (by omega)).mono ?_
                  rintro e w4 ⟨v, rfl, hRv, hb4⟩
                  obtain ⟨A, c, rfl⟩ := Kd.R_slice hRv
                  exact ⟨A, c, rfl, (Kd.R_reads' hRv).2, below_then h3 h3.size hb4⟩
                have step2 : ∀ w3 A c, Below wr.heap.size wr w3 → (refGetF L (asked xa)).length ≤ c → Kd.C k98 w3 A (refGetF L (asked xa)).length (refGetF L (asked xa)) → Calls Tryd.prog 77 #[.slice A (refGetF L (asked xa)).length c, .slice A3 xa.length c3] w3 fun e w' => e = .returned (.bool (sameA (refGetF L (asked xa)) xa)) ∧ Below wr.heap.size wr w' := by
                  intro w3 A c h3 hc hC
                  exact (cachepotref3_SameAnswers.calls (xa.length + 1) A c _ A3 c3 xa _ w3 hC hc (Kd.C_below g3 (below_then hbm hbm.size h3)) HL3.out (ref_f _ _ (by omega) _ (by omega))).mono (fun e w' h => ⟨h.1, below_then h3 h3.size h.2.below⟩)
                have Hgl := Lib.hid hgl
                have Hask := Lib.hid hask
                clear hgl hask
                obtain ⟨sb, hsb⟩ : ∃ sb, sb = sameA (refGetF L (asked xa)) xa := ⟨_, rfl⟩
                rw [← hsb] at step2
                have Hsb := Lib.hid hsb
                clear hsb
                have zz : ∀ W, Below wr.heap.size wr W → W.cell? ⟨(ad.add (k * 5)).block, (ad.add (k * 5)).off + 3, none⟩ = some (.slice A3 xa.length c3) := fun W hW => (hW.cell (World.block_lt_of_cell? wr _ x3i)).trans x3i
                go_wp2_with fail
                go_region_held3 (fun w' => w'.cell? ⟨(ad.add (k * 5)).block, (ad.add (k * 5)).off + 3, none⟩ = some (.slice A3 xa.length c3)) (exact zz _ (by first | assumption | exact Below.refl _ _ | exact (Below.refl _ _).drew | exact Below.drew (by assumption)))
                  (first | (go_at_call 68; refine (step _ (by first | assumption | exact Below.refl _ _ | exact (Below.refl _ _).drew | exact Below.drew (by assumption))).mono ?_; rintro e w4 ⟨A, c, rfl, ⟨hcc, hCC⟩, hb4⟩) | (go_at_call 77; refine (step2 _ _ _ (by assumption) (by assumption) (by assumption)).mono ?_; rintro e w5 ⟨rfl, hd⟩))
                have hbf : Below w.heap.size w w5 := below_then hbm hbm.size hd
                have hIf := hIa.below hd
                clear step step2 zz
                cases sb
                · have h := Hqs.out
                  rw [if_pos (by simp [failsR, ← Hsb.out])] at h
                  simp only [Prod.mk.injEq] at h
                  obtain ⟨rfl, rfl⟩ := h
                  go_wp2
                  go_ret2
                  exact ⟨rfl, hbf⟩
                · go_wp2
                  go_roundw
                  case rel =>
                    refine ⟨k + 1, _, L, hlt, by simp, by have := Hn2.out; omega, hs, hIf, hbf, ⟨?_⟩⟩
                    have h := Hqs.out
                    rw [if_neg (by simp [failsR, ← Hsb.out])] at h
                    exact h
                  case measure => simp [intOf]; omega
          · have t1 : (xk == 1) = false := beq_eq_false_iff_ne.2 h1
            have t3 : (xk == 3) = false := beq_eq_false_iff_ne.2 h3
            have t2 : (xk == 2) = false := beq_eq_false_iff_ne.2 h2
            have Hst : Hid (stepR ⟨xk, xs, xw, xa, xy⟩ L = L ∧ failsR ⟨xk, xs, xw, xa, xy⟩ L = false) := Lib.hid ⟨by simp [stepR, h1, h3], by simp [failsR, h2]⟩
            clear h1 h3 h2 moves
            go_wp2
            go_roundw
            case rel =>
              refine ⟨k + 1, v, L, hlt, by simp, by have := Hn2.out; omega, hs, hI, hb, ⟨?_⟩⟩
              have h := Hqs.out
              rw [if_neg (by rw [Hst.out.2]; decide), Hst.out.1] at h
              exact h
            case measure => simp [intOf]; omega
    · have hke : k = l0.length := by omega
      subst hke
      have hqs := hq.out
      rw [List.drop_length, replayR] at hqs
      simp only [Prod.mk.injEq] at hqs
      obtain ⟨rfl, rfl⟩ := hqs
      clear hq
      go_wp2
      go_ret2
      exact ⟨rfl, hb⟩
end Go.Proofs.YtfaelejeihmgcaaDoor.Lgx
end

section
namespace Go.Proofs.YtfaelejeihmgcaaDoor.Lgx
open Go.RowKit Go.Proofs.YtfaelejeihmgcaaDoorW.PrintWords Go.Proofs.YtfaelejeihmgcaaDoorW.PrintLast
theorem toList_eq_iff {a b : ByteArray} : a.toList = b.toList ↔ a = b :=
  ⟨fun h => Atm.bytes_inj (by rw [← ByteArray.toList_eq, ← ByteArray.toList_eq]; exact h), fun h => by rw [h]⟩
theorem look_skip {k : ByteArray} : ∀ (l : List S98) (a : S98), (∀ y ∈ l, y.f0 ≠ k) → l.foldl (lookStep k) a = a
  | [], _, _ => rfl
  | y :: l, a, h => by
    rw [List.foldl_cons, lookStep, if_neg (fun e => h y (by simp) (toList_eq_iff.1 e))]
    exact look_skip l a (fun z hz => h z (by simp [hz]))
theorem look_filter {k x : ByteArray} (hk : k ≠ x) : ∀ (l : List S98) (a : S98), (withoutF x l).foldl (lookStep k) a = l.foldl (lookStep k) a
  | [], _ => rfl
  | y :: l, a => by
    have ih := look_filter hk l
    unfold withoutF at ih ⊢
    by_cases hy : y.f0 = x
    · have hs : lookStep k a y = a := by rw [lookStep, if_neg (fun e => hk ((toList_eq_iff.1 e).symm.trans hy))]
      rw [List.filter_cons_of_neg (by simp [hy]), List.foldl_cons, hs, ih]
    · have hy' : y.f0.toList ≠ x.toList := fun e => hy (toList_eq_iff.1 e)
      rw [List.filter_cons_of_pos (by simpa using hy'), List.foldl_cons, List.foldl_cons, ih]
theorem without_ne {x : ByteArray} {L : List S98} : ∀ y ∈ withoutF x L, y.f0 ≠ x := fun y hy e => by
  have := (List.mem_filter.1 hy).2
  simp [e] at this
theorem look_without (x k : ByteArray) (L : List S98) : lookF (withoutF x L) k = if k = x then ⟨k, false, ⟨#[]⟩, 0⟩ else lookF L k := by
  unfold lookF
  split
  · rename_i h
    subst h
    exact look_skip _ _ without_ne
  · rename_i h
    exact look_filter h L _
theorem look_ins (seq : Int) (x : S101) (R : List S98) (hR : ∀ y ∈ R, y.f0 ≠ x.f0) (k : ByteArray) : lookF (insF seq x R) k = if k = x.f0 then ⟨x.f0, true, x.f2, seq⟩ else lookF R k := by
  unfold lookF insF
  rw [List.foldl_append, List.foldl_append, List.foldl_cons, List.foldl_nil]
  split
  · rename_i h
    rw [look_skip (R.drop _) _ (fun y hy => by rw [h]; exact hR y (List.mem_of_mem_drop hy)), lookStep, if_pos (by rw [h])]
  · rename_i h
    rw [lookStep, if_neg (fun e => h (toList_eq_iff.1 e).symm)]
    conv => rhs; rw [← List.take_append_drop (placeF x.f0 R) R, List.foldl_append]
/-- a row of answers tells what a map of keys tells -/
def Tells (L : List S98) (M : ByteArray → Atm.Had) : Prop := ∀ k, lookF L k = ⟨k, (M k).1, (M k).2.1, (M k).2.2⟩
theorem Tells.none : Tells [] (fun _ => Atm.nought) := fun _ => rfl
theorem Tells.get {L : List S98} {M : ByteArray → Atm.Had} (h : Tells L M) (l : List ByteArray) : refGetF L l = getM M l :=
  List.map_congr_left fun k _ => h k
theorem Tells.without {L : List S98} {M : ByteArray → Atm.Had} (h : Tells L M) (x : ByteArray) : Tells (withoutF x L) (Atm.putM M x Atm.nought) := fun k => by
  rw [look_without, Atm.putM]
  split
  · rfl
  · exact h k
theorem Tells.forget (l : List ByteArray) : ∀ {L : List S98} {M : ByteArray → Atm.Had}, Tells L M → Tells (forgetF l L) (forgetM l M) := by
  induction l with
  | nil => intro L M h; exact h
  | cons x l ih => intro L M h; exact ih (h.without x)
theorem Tells.commit1 {L : List S98} {M : ByteArray → Atm.Had} (h : Tells L M) (seq : Int) (x : S101) : Tells (commit1 seq x L) (Atm.putM M x.f0 (if x.f1 then Atm.nought else (true, x.f2, seq))) := by
  unfold Lgx.commit1
  by_cases hx : x.f1 = true
  · rw [if_pos hx, if_pos hx]
    exact h.without x.f0
  · rw [if_neg hx, if_neg hx]
    intro k
    rw [look_ins seq x _ without_ne, look_without, Atm.putM]
    split
    · rename_i e
      rw [e]
    · exact h k
theorem Tells.commit (seq : Int) (l : List S101) : ∀ {L : List S98} {M : ByteArray → Atm.Had}, Tells L M → Tells (commitF seq l L) (commitM seq l M) := by
  induction l with
  | nil => intro L M h; exact h
  | cons x l ih => intro L M h; exact ih (h.commit1 seq x)
theorem Tells.step {L : List S98} {M : ByteArray → Atm.Had} (h : Tells L M) (e : S43) : Tells (stepR e L) (stepM e M) := by
  unfold stepR stepM
  split
  · exact h.commit _ _
  · split
    · exact Tells.forget _ h
    · exact h
theorem Tells.fails_eq {L : List S98} {M : ByteArray → Atm.Had} (h : Tells L M) (e : S43) : failsR e L = fails e M := by
  unfold failsR fails
  rw [h.get]
theorem replay_eq : ∀ (l : List S43) (i : Nat) {L : List S98} {M : ByteArray → Atm.Had}, Tells L M → replayR i L l = replayM i M l
  | [], _, _, _, _ => rfl
  | e :: l, i, L, M, h => by
    rw [replayR, replayM, h.fails_eq e, replay_eq l (i + 1) (h.step e)]
end Go.Proofs.YtfaelejeihmgcaaDoor.Lgx
end

section
namespace Go.Proofs.YtfaelejeihmgcaaDoor.Lgx
open Go.RowKit Go.Proofs.YtfaelejeihmgcaaDoorW.PrintWords Go.Proofs.YtfaelejeihmgcaaDoorW.PrintLast
abbrev W4 := ByteArray × Bool × ByteArray × Bool
def lastW (l : List S101) (key : ByteArray) : Option S101 := l.reverse.find? fun y => y.f0.toList == key.toList
def lastT (l : List S101) (key : ByteArray) : W4 := match lastW l key with
  | some y => (y.f0, y.f1, y.f2, true)
  | none => (⟨#[]⟩, false, ⟨#[]⟩, false)
theorem lastW_snoc (l : List S101) (y : S101) (key : ByteArray) : lastW (l ++ [y]) key = if y.f0.toList = key.toList then some y else lastW l key := by
  unfold lastW
  rw [List.reverse_append, List.reverse_singleton, List.singleton_append, List.find?_cons]
  by_cases h : y.f0.toList = key.toList
  · rw [beq_iff_eq.2 h, if_pos h]
  · rw [beq_eq_false_iff_ne.2 h, if_neg h]
theorem last_l0 (l : List S101) (hl : l.length ≤ 1000) (key : ByteArray) : ∀ (d k : Nat), d ≤ l.length → d < k → ledger_last.l0 k l key ((d : Int) - 1) = some (lastT (l.take d) key) := by
  intro d
  induction d with
  | zero =>
    intro k hd hk
    obtain ⟨k, rfl⟩ : ∃ m, k = m + 1 := ⟨k - 1, by omega⟩
    simp only [ledger_last.l0]
    rw [if_neg (by omega)]
    rfl
  | succ d ih =>
    intro k hd hk
    obtain ⟨k, rfl⟩ : ∃ m, k = m + 1 := ⟨k - 1, by omega⟩
    have h1 : d < l.length := by omega
    have hr : rd_T101 l (((d + 1 : Nat) : Int) - 1) = l[d] := by rw [show ((d + 1 : Nat) : Int) - 1 = (d : Int) by omega, rd101 h1]
    simp only [ledger_last.l0]
    rw [if_pos (by omega), if_pos (by omega), if_pos (by omega), hr, List.take_succ_eq_append_getElem h1, lastT, lastW_snoc]
    split
    · rfl
    · rw [show wrap64 (((d + 1 : Nat) : Int) - 1 - 1) = (d : Int) - 1 from by rw [w64s _ (by omega) (by omega)]; omega, ih k (by omega) (by omega)]
      rfl
theorem last_f (l : List S101) (hl : l.length ≤ 1000) (key : ByteArray) (k : Nat) (hk : 1001 ≤ k) : ledger_last.f k l key = some (lastT l key) := by
  unfold ledger_last.f
  rw [w64s _ (by omega) (by omega), last_l0 l hl key l.length k (Nat.le_refl _) (by omega), List.take_length]
theorem rfind_l0 (l : List S101) (hl : l.length ≤ 1000) (key : ByteArray) : ∀ (d k : Nat), d ≤ l.length → d < k → cachepotref1_BatchFind.l0 k l key ((d : Int) - 1) = some (lastT (l.take d) key) := by
  intro d
  induction d with
  | zero =>
    intro k hd hk
    obtain ⟨k, rfl⟩ : ∃ m, k = m + 1 := ⟨k - 1, by omega⟩
    simp only [cachepotref1_BatchFind.l0]
    rw [if_neg (by omega)]
    rfl
  | succ d ih =>
    intro k hd hk
    obtain ⟨k, rfl⟩ : ∃ m, k = m + 1 := ⟨k - 1, by omega⟩
    have h1 : d < l.length := by omega
    have hr : rd_T101 l (((d + 1 : Nat) : Int) - 1) = l[d] := by rw [show ((d + 1 : Nat) : Int) - 1 = (d : Int) by omega, rd101 h1]
    simp only [cachepotref1_BatchFind.l0]
    rw [if_pos (by omega), if_pos (by omega), if_pos (by omega), hr, List.take_succ_eq_append_getElem h1, lastT, lastW_snoc]
    split
    · rfl
    · rw [show wrap64 (((d + 1 : Nat) : Int) - 1 - 1) = (d : Int) - 1 from by rw [w64s _ (by omega) (by omega)]; omega, ih k (by omega) (by omega)]
      rfl
theorem rfind_f (l : List S101) (hl : l.length ≤ 1000) (key : ByteArray) (k : Nat) (hk : 1001 ≤ k) : cachepotref1_BatchFind.f k l key = some (lastT l key) := by
  unfold cachepotref1_BatchFind.f
  rw [w64s _ (by omega) (by omega), rfind_l0 l hl key l.length k (Nat.le_refl _) (by omega), List.take_length]
/-- the place of the last batch of a number among the first n events; -1 -/
def commN (P : List S43) (seq : Int) : Nat → Int
  | 0 => -1
  | n + 1 => if (rd_T43 P (n : Int)).f0 = 1 ∧ (rd_T43 P (n : Int)).f1 = seq then (n : Int) else commN P seq n
theorem comm_l0 (P : List S43) (hl : P.length ≤ 1000) (seq : Int) : ∀ (d k : Nat), d ≤ P.length → d < k → ledger_committed.l0 k P seq ((d : Int) - 1) = some (commN P seq d) := by
  intro d
  induction d with
  | zero =>
    intro k hd hk
    obtain ⟨k, rfl⟩ : ∃ m, k = m + 1 := ⟨k - 1, by omega⟩
    simp only [ledger_committed.l0]
    rw [if_neg (by omega)]
    rfl
  | succ d ih =>
    intro k hd hk
    obtain ⟨k, rfl⟩ : ∃ m, k = m + 1 := ⟨k - 1, by omega⟩
    have hr : ((d + 1 : Nat) : Int) - 1 = (d : Int) := by omega
    have e := ih k (by omega) (by omega)
    have e2 : wrap64 (((d + 1 : Nat) : Int) - 1 - 1) = (d : Int) - 1 := by rw [w64s _ (by omega) (by omega)]; omega
    simp only [ledger_committed.l0]
    rw [if_pos (by omega), if_pos (by omega), if_pos (by omega), e2, hr, commN, e]
    by_cases h1 : (rd_T43 P (d : Int)).f0 = 1
    · rw [if_pos h1]
      by_cases h2 : (rd_T43 P (d : Int)).f1 = seq
      · rw [if_pos h2, if_pos ⟨h1, h2⟩]
      · rw [if_neg h2, if_neg (fun h => h2 h.2)]
    · rw [if_neg h1, if_neg (fun h => h1 h.1)]
theorem comm_f (P : List S43) (hl : P.length ≤ 1000) (seq : Int) (k : Nat) (hk : 1001 ≤ k) : ledger_committed.f k P seq = some (commN P seq P.length) := by
  unfold ledger_committed.f
  rw [w64s _ (by omega) (by omega), comm_l0 P hl seq P.length k (Nat.le_refl _) (by omega)]
theorem rcomm_l0 (P : List S43) (hl : P.length ≤ 1000) (seq : Int) : ∀ (d k : Nat), d ≤ P.length → d < k → cachepotref3_committed.l0 k P seq ((d : Int) - 1) = some (commN P seq d) := by
  intro d
  induction d with
  | zero =>
    intro k hd hk
    obtain ⟨k, rfl⟩ : ∃ m, k = m + 1 := ⟨k - 1, by omega⟩
    simp only [cachepotref3_committed.l0]
    rw [if_neg (by omega)]
    rfl
  | succ d ih =>
    intro k hd hk
    obtain ⟨k, rfl⟩ : ∃ m, k = m + 1 := ⟨k - 1, by omega⟩
    have hr : ((d + 1 : Nat) : Int) - 1 = (d : Int) := by omega
    have e := ih k (by omega) (by omega)
    have e2 : wrap64 (((d + 1 : Nat) : Int) - 1 - 1) = (d : Int) - 1 := by rw [w64s _ (by omega) (by omega)]; omega
    simp only [cachepotref3_committed.l0]
    rw [if_pos (by omega), if_pos (by omega), if_pos (by omega), e2, hr, commN, e]
    by_cases h1 : (rd_T43 P (d : Int)).f0 = 1
    · rw [if_pos h1]
      by_cases h2 : (rd_T43 P (d : Int)).f1 = seq
      · rw [if_pos h2, if_pos ⟨h1, h2⟩]
      · rw [if_neg h2, if_neg (fun h => h2 h.2)]
    · rw [if_neg h1, if_neg (fun h => h1 h.1)]
theorem rcomm_f (P : List S43) (hl : P.length ≤ 1000) (seq : Int) (n : Nat) (hn : n ≤ P.length) (k : Nat) (hk : 1001 ≤ k) : cachepotref3_committed.f k P seq (n : Int) = some (commN P seq n) := by
  unfold cachepotref3_committed.f
  rw [w64s _ (by omega) (by omega), rcomm_l0 P hl seq n k hn (by omega)]
theorem commN_lt (P : List S43) (seq : Int) : ∀ n : Nat, -1 ≤ commN P seq n ∧ commN P seq n < n
  | 0 => by simp [commN]
  | n + 1 => by
    have := commN_lt P seq n
    rw [commN]
    split <;> omega
/-- does an event take the key away? -/
def delE (key : ByteArray) (e : S43) : Bool := decide (e.f0 = 1) && ((lastT e.f2 key).2.2.2 && (lastT e.f2 key).2.1)
theorem del_l0 (P : List S43) (hl : P.length ≤ 1000) (hw : ∀ e ∈ P, e.f2.length ≤ 1000) (key : ByteArray) : ∀ (d k i : Nat), P.length - i = d → i ≤ P.length → d + 1001 < k → ledger_deleted.l0 k key P (P.length : Int) (i : Int) = some ((P.drop i).any (delE key)) := by
  intro d
  induction d with
  | zero =>
    intro k i hd hi hk
    obtain ⟨k, rfl⟩ : ∃ m, k = m + 1 := ⟨k - 1, by omega⟩
    simp only [ledger_deleted.l0]
    rw [if_neg (by omega), List.drop_eq_nil_of_le (by omega)]
    rfl
  | succ d ih =>
    intro k i hd hi hk
    obtain ⟨k, rfl⟩ : ∃ m, k = m + 1 := ⟨k - 1, by omega⟩
    have h1 : i < P.length := by omega
    have e := ih k (i + 1) (by omega) (by omega) (by omega)
    simp only [ledger_deleted.l0]
    rw [if_pos (by omega), if_pos (by omega), if_pos (by omega), rd43 h1, last_f _ (hw _ (List.getElem_mem h1)) key k (by omega), w64s _ (by omega) (by omega), List.drop_eq_getElem_cons h1, List.any_cons]
    simp only [Option.bind_some]
    rw [show ((i : Int) + 1) = ((i + 1 : Nat) : Int) by omega, e]
    unfold delE
    by_cases h2 : P[i].f0 = 1
    · rw [if_pos h2, decide_eq_true h2]
      cases (lastT P[i].f2 key).2.2.2 <;> cases (lastT P[i].f2 key).2.1 <;> simp
    · rw [if_neg h2, decide_eq_false h2]
      simp
theorem del_f (P : List S43) (hl : P.length ≤ 1000) (hw : ∀ e ∈ P, e.f2.length ≤ 1000) (key : ByteArray) (k : Nat) (hk : 2010 ≤ k) : ledger_deleted.f k P key = some (P.any (delE key)) := by
  unfold ledger_deleted.f
  have h := del_l0 P hl hw key P.length k 0 (by omega) (by omega) (by omega)
  rw [List.drop_zero] at h
  exact h
/-- is an answer of an event's batch? -/
def hitE (c : S98) (e : S43) : Bool := decide (e.f0 = 1) && (if c.f1 = true then decide (e.f1 = c.f3) else ((lastT e.f2 c.f0).2.2.2 && (lastT e.f2 c.f0).2.1))
theorem later_l0 (P : List S43) (hl : P.length ≤ 1000) (hw : ∀ e ∈ P, e.f2.length ≤ 1000) (c : S98) (at_ : Nat) (hat : at_ ≤ P.length) : ∀ (d k i : Nat), at_ - i = d → i ≤ at_ → d + 1001 < k →
    cachepotref3_later.l0 k P (at_ : Int) (i : Int) c.f0 c.f1 c.f2 c.f3 = some (((P.drop i).take (at_ - i)).any (hitE c)) := by
  intro d
  induction d with
  | zero =>
    intro k i hd hi hk
    obtain ⟨k, rfl⟩ : ∃ m, k = m + 1 := ⟨k - 1, by omega⟩
    simp only [cachepotref3_later.l0]
    rw [if_neg (by omega), show at_ - i = 0 by omega]
    simp
  | succ d ih =>
    intro k i hd hi hk
    obtain ⟨k, rfl⟩ : ∃ m, k = m + 1 := ⟨k - 1, by omega⟩
    have h1 : i < P.length := by omega
    have e := ih k (i + 1) (by omega) (by omega) (by omega)
    simp only [cachepotref3_later.l0]
    rw [if_pos (by omega), if_pos (by omega), if_pos (by omega), rd43 h1, rfind_f _ (hw _ (List.getElem_mem h1)) c.f0 k (by omega), w64s _ (by omega) (by omega), List.drop_eq_getElem_cons h1, show at_ - i = (at_ - (i + 1)) + 1 by omega, List.take_succ_cons, List.any_cons]
    simp only [Option.bind_some]
    rw [show ((i : Int) + 1) = ((i + 1 : Nat) : Int) by omega, e]
    unfold hitE
    by_cases h2 : P[i].f0 = 1
    · rw [if_pos h2, decide_eq_true h2]
      by_cases h3 : c.f1 = true
      · rw [if_pos h3, if_pos h3]
        by_cases h4 : P[i].f1 = c.f3
        · rw [if_pos h4, decide_eq_true h4]; simp
        · rw [if_neg h4, decide_eq_false h4]; simp
      · rw [if_neg h3, if_neg h3]
        cases (lastT P[i].f2 c.f0).2.2.2 <;> cases (lastT P[i].f2 c.f0).2.1 <;> simp
    · rw [if_neg h2, decide_eq_false h2]
      simp
def laterB (P : List S43) (c : S98) (b at_ : Nat) : Bool := ((P.drop b).take (at_ - b)).any (hitE c)
theorem later_f (P : List S43) (hl : P.length ≤ 1000) (hw : ∀ e ∈ P, e.f2.length ≤ 1000) (c : S98) (b at_ : Nat) (hb : b ≤ at_) (hat : at_ ≤ P.length) (k : Nat) (hk : 2010 ≤ k) : cachepotref3_later.f k P c.f0 c.f1 c.f2 c.f3 (b : Int) (at_ : Int) = some (laterB P c b at_) :=
  later_l0 P hl hw c at_ hat (at_ - b) k b rfl hb (by omega)
/-- package ledger's: is another answer of the batch at b, or later? -/
def okB (P : List S43) (b : Nat) (c : S98) : Bool := !(lastT (rd_T43 P (b : Int)).f2 c.f0).2.2.2 || (if c.f1 = true then decide ((b : Int) ≤ commN P c.f3 P.length) else (P.drop b).any (delE c.f0))
def goodB (P : List S43) (b : Nat) (a : S98) : Bool := (lastT (rd_T43 P (b : Int)).f2 a.f0).2.2.2 && (!(lastT (rd_T43 P (b : Int)).f2 a.f0).2.1 && ((lastT (rd_T43 P (b : Int)).f2 a.f0).2.2.1.toList == a.f2.toList))
def wholeB (P : List S43) (a : S98) (all : List S98) : Bool := if commN P a.f3 P.length < 0 then false else goodB P (commN P a.f3 P.length).toNat a && all.all (okB P (commN P a.f3 P.length).toNat)
/-- the reference's -/
def okR2 (x : List S43) (b at_ : Nat) (c : S98) : Bool := !(lastT (rd_T43 x (b : Int)).f2 c.f0).2.2.2 || laterB x c b at_
def wholeR (x : List S43) (at_ : Nat) (a : S98) (all : List S98) : Bool := if commN x a.f3 at_ < 0 then false else goodB x (commN x a.f3 at_).toNat a && all.all (okR2 x (commN x a.f3 at_).toNat at_)
def wholeAtB (x : List S43) (at_ : Nat) : Bool := (rd_T43 x (at_ : Int)).f3.all fun a => !a.f1 || wholeR x at_ a (rd_T43 x (at_ : Int)).f3
def wholeF (x : List S43) : Nat → List S43 → Int × Bool
  | i, [] => ((i : Int), true)
  | i, e :: l => if e.f0 = 2 ∧ wholeAtB x i = false then ((i : Int), false) else wholeF x (i + 1) l
theorem rd_take (x : List S43) (i j : Nat) (h : j < i) : rd_T43 (x.take i) (j : Int) = rd_T43 x (j : Int) := by
  unfold rd_T43
  rw [Int.toNat_natCast, List.getD_eq_getElem?_getD, List.getD_eq_getElem?_getD, List.getElem?_take_of_lt h]
theorem commN_take (x : List S43) (seq : Int) (i : Nat) : ∀ n : Nat, n ≤ i → commN (x.take i) seq n = commN x seq n
  | 0, _ => rfl
  | n + 1, h => by rw [commN, commN, rd_take x i n (by omega), commN_take x seq i n (by omega)]
theorem commN_ge (x : List S43) (seq : Int) (b : Nat) : ∀ n : Nat, n ≤ x.length → ((b : Int) ≤ commN x seq n ↔ ((x.drop b).take (n - b)).any (fun e => decide (e.f0 = 1) && decide (e.f1 = seq)) = true)
  | 0, _ => by
    rw [commN]
    simp
    omega
  | n + 1, h => by
    have ih := commN_ge x seq b n (by omega)
    by_cases hb : b ≤ n
    · have hs : (x.drop b).take (n + 1 - b) = (x.drop b).take (n - b) ++ [x[n]] := by
        rw [show n + 1 - b = (n - b) + 1 by omega, List.take_succ_eq_append_getElem (by rw [List.length_drop]; omega), List.getElem_drop]
        congr 2
        simp only [show b + (n - b) = n by omega]
      rw [hs, List.any_append, Bool.or_eq_true, ← ih, commN, rd43 (show n < x.length by omega)]
      by_cases hc : x[n].f0 = 1 ∧ x[n].f1 = seq
      · rw [if_pos hc]
        simp [hc.1, hc.2]
        omega
      · rw [if_neg hc]
        have : ([x[n]].any fun e => decide (e.f0 = 1) && decide (e.f1 = seq)) = false := by
          simp only [List.any_cons, List.any_nil, Bool.or_false, Bool.and_eq_false_iff, decide_eq_false_iff_not]
          exact Classical.not_and_iff_not_or_not.1 hc
        rw [this]
        simp
    · have hl := commN_lt x seq (n + 1)
      rw [show n + 1 - b = 0 by omega]
      simp
      omega
theorem ok_eq (x : List S43) (b i : Nat) (hb : b < i) (hi : i ≤ x.length) (c : S98) : okB (x.take i) b c = okR2 x b i c := by
  unfold okB okR2 laterB
  rw [rd_take x i b hb]
  congr 1
  have hlen : (x.take i).length = i := by rw [List.length_take]; omega
  rw [hlen, commN_take x c.f3 i i (Nat.le_refl _), List.drop_take]
  split
  · rename_i h1
    have h := commN_ge x c.f3 b i hi
    rw [Bool.eq_iff_iff, decide_eq_true_iff, h]
    have : (fun e : S43 => decide (e.f0 = 1) && decide (e.f1 = c.f3)) = hitE c := by
      funext e
      unfold hitE
      rw [if_pos h1]
    rw [this]
  · rename_i h1
    have : delE c.f0 = hitE c := by
      funext e
      unfold hitE delE
      rw [if_neg h1]
    rw [this]
theorem whole_eq (x : List S43) (i : Nat) (hi : i ≤ x.length) (a : S98) (all : List S98) : wholeB (x.take i) a all = wholeR x i a all := by
  unfold wholeB wholeR
  have hlen : (x.take i).length = i := by rw [List.length_take]; omega
  rw [hlen, commN_take x a.f3 i i (Nat.le_refl _)]
  split
  · rfl
  · rename_i h
    have hlt := commN_lt x a.f3 i
    obtain ⟨b, hb⟩ : ∃ b : Nat, commN x a.f3 i = b := ⟨(commN x a.f3 i).toNat, by omega⟩
    rw [hb, Int.toNat_natCast]
    have hbi : b < i := by omega
    congr 1
    · unfold goodB
      rw [rd_take x i b hbi]
    · congr 1
      funext c
      exact ok_eq x b i hbi hi c
end Go.Proofs.YtfaelejeihmgcaaDoor.Lgx
end

section
namespace Go.Proofs.YtfaelejeihmgcaaDoor.Lgx
open Go.RowKit Go.Proofs.YtfaelejeihmgcaaDoorW.PrintWords Go.Proofs.YtfaelejeihmgcaaDoorW.PrintLast
theorem last_at (A : Option Addr) (c n : Nat) (l : List S101) (key tk : ByteArray) (td : Bool) (tv : ByteArray) (tok : Bool) (w : World) (hn : l.length = n) (hr : Kd.C k101 w A l.length l) (hc : l.length ≤ c) (hl : l.length ≤ 1000) (ht : lastT l key = (tk, td, tv, tok)) :
    Calls Tryd.prog 104 #[.slice A n c, .string key] w fun e w' => e = .returned (.tuple #[.agg #[.string tk, .bool td, .string tv], .bool tok]) ∧ Below w.heap.size w w' := by
  subst hn
  exact ledger_last.calls 1001 A c l key tk td tv tok w hr hc (by rw [last_f l hl key 1001 (by decide), ht])
theorem comm_at (A : Option Addr) (c n : Nat) (P : List S43) (seq r : Int) (w : World) (hn : P.length = n) (hr : Kd.C k43 w A P.length P) (hc : P.length ≤ c) (hl : P.length ≤ 1000) (ht : commN P seq P.length = r) :
    Calls Tryd.prog 103 #[.slice A n c, .int .u32 seq] w fun e w' => e = .returned (.int .i64 r) ∧ ∃ n, w' = w.drewN n := by
  subst hn
  exact (ledger_committed.calls 1001 A c P seq r w hr hc (by rw [comm_f P hl seq 1001 (by decide), ht])).mono fun _ _ h => ⟨h.1, h.2.out⟩
theorem del_at (A : Option Addr) (c n : Nat) (P : List S43) (key : ByteArray) (r : Bool) (w : World) (hn : P.length = n) (hr : Kd.C k43 w A P.length P) (hc : P.length ≤ c) (hl : P.length ≤ 1000) (hw : ∀ e ∈ P, e.f2.length ≤ 1000) (ht : P.any (delE key) = r) :
    Calls Tryd.prog 105 #[.slice A n c, .string key] w fun e w' => e = .returned (.bool r) ∧ Below w.heap.size w w' := by
  subst hn
  exact ledger_deleted.calls 2010 A c P key r w hr hc (by rw [del_f P hl hw key 2010 (by decide), ht])
theorem bcell {W w1 : World} (hb : Below W.heap.size W w1) : (∀ b o, b < W.heap.size → w1.cell? ⟨b, o, none⟩ = W.cell? ⟨b, o, none⟩) ∧ (∀ b o, b < W.heap.size → w1.frozen? ⟨b, o, none⟩ = W.frozen? ⟨b, o, none⟩) :=
  ⟨fun b o h => hb.cell (p := ⟨b, o, none⟩) h, fun b o h => hb.frozen (p := ⟨b, o, none⟩) h⟩
theorem set3 {W : World} {g : Nat} {a0 a1 a2 : Value} {t : TypeId} (h : W.heap[g]? = some (.cells #[a0, a1, a2] t)) (b0 b1 b2 : Value) : (((W.setCell ⟨g, 0, none⟩ b0).setCell ⟨g, 1, none⟩ b1).setCell ⟨g, 2, none⟩ b2).heap[g]? = some (.cells #[b0, b1, b2] t) := by
  simp [World.setCell, Array.getElem?_modify, h]
theorem below_set3 {B : Nat} {w W : World} {g : Nat} (hb : Below B w W) (hg : B ≤ g) (b0 b1 b2 : Value) : Below B w (((W.setCell ⟨g, 0, none⟩ b0).setCell ⟨g, 1, none⟩ b1).setCell ⟨g, 2, none⟩ b2) :=
  ((hb.setCell (p := ⟨g, 0, none⟩) hg _).setCell (p := ⟨g, 1, none⟩) hg _).setCell (p := ⟨g, 2, none⟩) hg _
def wlist (P : List S43) (b : Nat) : List S98 → Bool
  | [] => true
  | c :: l => okB P b c && wlist P b l
theorem wlist_all (P : List S43) (b : Nat) : ∀ l : List S98, wlist P b l = l.all (okB P b)
  | [] => rfl
  | c :: l => by rw [wlist, wlist_all P b l, List.all_cons]
theorem slice_tail47 (A : Option Addr) (n c j : Nat) (hj : j ≤ n) (W : World) : (Instr.slice 47 (.slice A n c) (some (.int .i64 (j : Int))) none none).run Tryd.prog W = .ok (.slice (if c = j then A else A.map (·.add (j * 5))) (n - j) (c - j)) W := by
  rw [run_slice_l W 47 A n c (by kernel_rfl) .i64 (j : Int) (by omega) (by omega)]
  go_simp
set_option maxHeartbeats 8000000 in
set_option maxRecDepth 100000 in
theorem ledger_whole_walk (A : Option Addr) (c : Nat) (P : List S43) (ak : ByteArray) (ai : Bool) (av : ByteArray) (af : Int) (A2 : Option Addr) (c2 : Nat) (all : List S98) (w : World) (hC : Kd.C k43 w A P.length P) (hc : P.length ≤ c) (hP : P.length ≤ 1000) (hw : ∀ e ∈ P, e.f2.length ≤ 1000)
    (hC2 : Kd.C k98 w A2 all.length all) (hall : all.length ≤ 1000) :
    Calls Tryd.prog 79 #[.slice A P.length c, .agg #[.string ak, .bool ai, .string av, .int .u32 af], .slice A2 all.length c2] w fun e w' => e = .returned (.bool (wholeB P ⟨ak, ai, av, af⟩ all)) ∧ Below w.heap.size w w' := by
  have HW := Lib.hid hw
  have Hc := Lib.hid hc
  obtain ⟨n, hn⟩ : ∃ n, P.length = n := ⟨_, rfl⟩
  have Hn := Lib.hid hn
  obtain ⟨at_, hat⟩ : ∃ r, commN P af P.length = r := ⟨_, rfl⟩
  have hlt := commN_lt P af P.length
  rw [hat] at hlt
  have Hat := Lib.hid hat
  have hb1 := below_alloc (Below.refl _ w) (.cells #[.string ak, .bool ai, .string av, .int .u32 af] 98)
  have hz := heap_alloc_new w (.cells #[.string ak, .bool ai, .string av, .int .u32 af] 98)
  have hlt1 : w.heap.size < (w.alloc (.cells #[.string ak, .bool ai, .string av, .int .u32 af] 98)).heap.size := by simp
  have hnP : n ≤ 1000 := by omega
  rw [hn] at hlt
  have comm := fun W (h : Below w.heap.size w W) => comm_at A c n P af at_ W Hn.out (Kd.C_below hC h) Hc.out hP Hat.out
  rw [hn]
  clear hn hat hw hc hP
  by_cases hneg : at_ < 0
  · have hr : wholeB P ⟨ak, ai, av, af⟩ all = false := by unfold wholeB; rw [Hat.out, if_pos hneg]
    rw [hr]
    have d1 : decide (at_ < 0) = true := decide_eq_true hneg
    go_enter Tryd.func79, Tryd.ntmps79
    go_wp2_with fail
    generalize w.alloc (.cells #[.string ak, .bool ai, .string av, .int .u32 af] 98) = w1 at hb1 hz hlt1 ⊢
    refine (comm w1 hb1).mono ?_
    rintro e w2 ⟨rfl, q, rfl⟩
    go_wp2
    go_ret
    exact ⟨rfl, pw_below_drewN hb1 q⟩
  · obtain ⟨b, rfl⟩ : ∃ b : Nat, at_ = b := ⟨at_.toNat, by omega⟩
    have hbn : b < n := by omega
    have d1 : decide ((b : Int) < 0) = false := decide_eq_false (by omega)
    obtain ⟨ad, A4, c4, A5, c5, A6, c6, e, x0, x1, x2, x3, x4, l2, g2, l3, g3, l4, g4⟩ := at_T43 hC b (by omega) (by rw [Hn.out]; omega)
    cases e
    have hwl : (rd_T43 P (b : Int)).f2.length ≤ 1000 := by
      have hbP : b < P.length := by rw [Hn.out]; exact hbn
      rw [rd43 hbP]
      exact HW.out _ (List.getElem_mem hbP)
    clear x0 x1 x3 x4 l3 g3 l4 g4
    simp only [Int.toNat_natCast] at x2
    obtain ⟨⟨tk, td, tv, tok⟩, ht⟩ : ∃ t, lastT (rd_T43 P (b : Int)).f2 ak = t := ⟨_, rfl⟩
    have hr : wholeB P ⟨ak, ai, av, af⟩ all = ((tok && (!td && (tv.toList == av.toList))) && wlist P b all) := by
      unfold wholeB goodB
      rw [Hat.out, if_neg hneg, Int.toNat_natCast, wlist_all]
      simp only [ht]
    rw [hr]
    obtain ⟨ws, hws⟩ : ∃ ws, ws = (rd_T43 P (b : Int)).f2 := ⟨_, rfl⟩
    rw [← hws] at x2 l2 g2 hwl ht
    obtain ⟨nw, hnw⟩ : ∃ nw, ws.length = nw := ⟨_, rfl⟩
    have Hws := Lib.hid hws
    have Hnw := Lib.hid hnw
    have Ht := Lib.hid ht
    have Hl2 := Lib.hid l2
    have Hwl := Lib.hid hwl
    rw [hnw] at x2
    have last := fun (key tk : ByteArray) (td : Bool) (tv : ByteArray) (tok : Bool) (W : World) (h : Below w.heap.size w W) (ht : lastT ws key = (tk, td, tv, tok)) => last_at A4 c4 nw ws key tk td tv tok W Hnw.out (Kd.C_below g2 h) Hl2.out Hwl.out ht
    clear hr hws hnw ht l2 hwl hlt hneg
    have hzk := hlt1
    go_enter Tryd.func79, Tryd.ntmps79
    go_wp2_with fail
    generalize w.alloc (.cells #[.string ak, .bool ai, .string av, .int .u32 af] 98) = w1 at hb1 hz hlt1 hzk ⊢
    have y0 : w1.cell? ⟨w.heap.size, 0, none⟩ = some (.string ak) := Lib.cell_of_heap hz 0
    have y2 : w1.cell? ⟨w.heap.size, 2, none⟩ = some (.string av) := Lib.cell_of_heap hz 2
    have x2w := x2
    replace x2 := (hb1.cell (World.block_lt_of_cell? w _ x2)).trans x2
    refine (comm w1 hb1).mono ?_
    rintro e w2 ⟨rfl, q, rfl⟩
    have hb2 := pw_below_drewN hb1 q
    have hb12 := pw_below_drewN (Below.refl w1.heap.size w1) q
    generalize w1.drewN q = w2 at hb2 hb12 ⊢
    have c0 : w2.cell? ⟨(ad.add (b * 5)).block, (ad.add (b * 5)).off + 2, none⟩ = some (.slice A4 nw c4) := (hb12.cell (World.block_lt_of_cell? w1 _ x2)).trans x2
    have c1 : w2.cell? ⟨w.heap.size, 0, none⟩ = some (.string ak) := (hb12.cell (World.block_lt_of_cell? w1 _ y0)).trans y0
    have c3 : w2.cell? ⟨w.heap.size, 2, none⟩ = some (.string av) := (hb12.cell (World.block_lt_of_cell? w1 _ y2)).trans y2
    clear x2 y0 y2 hz
    have zz : ∀ W, Below w2.heap.size w2 W → W.cell? ⟨(ad.add (b * 5)).block, (ad.add (b * 5)).off + 2, none⟩ = some (.slice A4 nw c4) ∧ W.cell? ⟨w.heap.size, 0, none⟩ = some (.string ak) ∧ W.cell? ⟨w.heap.size, 2, none⟩ = some (.string av) := fun W hW =>
      ⟨(hW.cell (World.block_lt_of_cell? w2 _ c0)).trans c0, (hW.cell (World.block_lt_of_cell? w2 _ c1)).trans c1, (hW.cell (World.block_lt_of_cell? w2 _ c3)).trans c3⟩
    have step : ∀ (key tk : ByteArray) (td : Bool) (tv : ByteArray) (tok : Bool) (W : World), Below w2.heap.size w2 W → lastT ws key = (tk, td, tv, tok) → Calls Tryd.prog 104 #[.slice A4 nw c4, .string key] W fun e w' => e = .returned (.tuple #[.agg #[.string tk, .bool td, .string tv], .bool tok]) ∧ Below w2.heap.size w2 w' ∧ Below W.heap.size W w' := fun key tk td tv tok W hW ht =>
      (last key tk td tv tok W (below_then hb2 hb2.size hW) ht).mono fun _ _ h => ⟨h.1, below_then hW hW.size h.2, h.2⟩
    clear last comm
    go_upto_region 4 with (fail)
    go_cut [8, 9] (fun v8 v9 wc => ∃ g : Nat, v8 = .pointer (some ⟨g, 0, none⟩) ∧ v9 = .bool tok ∧ wc.heap[g]? = some (.cells #[.string tk, .bool td, .string tv] 101) ∧ w2.heap.size ≤ g ∧ Below w2.heap.size w2 wc)
    case first =>
      go_wp2_with fail
      go_region_held3 (fun W => W.cell? ⟨(ad.add (b * 5)).block, (ad.add (b * 5)).off + 2, none⟩ = some (.slice A4 nw c4) ∧ W.cell? ⟨w.heap.size, 0, none⟩ = some (.string ak) ∧ W.cell? ⟨w.heap.size, 2, none⟩ = some (.string av)) (exact zz _ (by repeat (first | assumption | exact Below.refl _ _ | exact below_set3 (by assumption) (Nat.le_refl _) _ _ _ | apply below_drew | apply below_alloc)))
        ((go_at_call 104; refine (step ak tk td tv tok _ (by repeat (first | assumption | exact Below.refl _ _ | exact below_set3 (by assumption) (Nat.le_refl _) _ _ _ | apply below_drew | apply below_alloc)) Ht.out).mono ?_; rintro e w5 ⟨rfl, hb5, hbW⟩; obtain ⟨hcb, hfb⟩ := bcell hbW))
      all_goals (
        go_wp2_with fail
        go_meet
        case rel => first
          | exact ⟨_, rfl, rfl, heap_alloc_new _ _, hb5.size, below_alloc hb5 _⟩
          | exact ⟨_, rfl, rfl, set3 ((hbW.block w2.heap.size (by simp)).trans (heap_alloc_new w2.drew _)) _ _ _, Nat.le_refl _, below_set3 hb5 (Nat.le_refl _) _ _ _⟩)
    case rest =>
      obtain ⟨g, rfl, rfl, hg, hgl, hb5⟩ := hcut
      have hbw := below_then hb2 hb2.size hb5
      have t1 : wc.cell? ⟨g, 1, none⟩ = some (.bool td) := Lib.cell_of_heap hg 1
      have t2 : wc.cell? ⟨g, 2, none⟩ = some (.string tv) := Lib.cell_of_heap hg 2
      have t3 := (zz wc hb5).2.2
      clear zz step hg
      cases tok
      · go_wp2
        go_ret
        exact ⟨by simp, hbw⟩
      · cases td
        rotate_left
        · go_wp2
          go_ret
          exact ⟨by simp, hbw⟩
        · by_cases hv : tv.toList = av.toList
          rotate_left
          · have v1 : (tv.toList == av.toList) = false := beq_eq_false_iff_ne.2 hv
            have v2 : (tv.toList != av.toList) = true := bne_iff_ne.2 hv
            clear hv
            go_wp2
            go_ret
            exact ⟨by simp [v1], hbw⟩
          · have v1 : (tv.toList == av.toList) = true := beq_iff_eq.2 hv
            have v2 : (tv.toList != av.toList) = false := bne_eq_false_iff_eq.2 hv
            have V1 := Lib.hid v1
            clear hv c0 c1 c3
            go_wp2_with fail
            go_loopw [46] (fun i wr => ∃ j : Nat, j ≤ all.length ∧ i = .int .i64 j ∧ Below w.heap.size w wr ∧ Aside0 (wlist P b (all.drop j) = wlist P b all)) (fun i _ => all.length - (intOf i).toNat)
            case atStart => exact ⟨0, Nat.zero_le _, rfl, hbw, ⟨by rw [List.drop_zero]⟩⟩
            case round =>
              clear hbw hb5 hb2 hb12 hb1 t1 t2 t3 v1 v2
              obtain ⟨j, hjl, rfl, hb, hq⟩ := hrel
              by_cases hlj : j < all.length
              · obtain ⟨ad2, e2, y0, y1, y2, y3⟩ := at_T98 hC2 j (by omega) (by omega)
                cases e2
                rw [rd98 hlj] at y0 y1 y2 y3
                simp only [Int.toNat_natCast] at y0 y1 y2 y3
                have hsn : wlist P b (all.drop j) = (okB P b all[j] && wlist P b (all.drop (j + 1))) := by rw [List.drop_eq_getElem_cons hlj, wlist]
                obtain ⟨x, hx⟩ : ∃ x, x = all[j] := ⟨_, rfl⟩
                rw [← hx] at y0 y1 y2 y3 hsn
                clear hx
                obtain ⟨ck, ci, cv, cf⟩ := x
                replace y0 := (hb.cell (World.block_lt_of_cell? w _ y0)).trans y0
                replace y1 := (hb.cell (World.block_lt_of_cell? w _ y1)).trans y1
                replace y2 := (hb.cell (World.block_lt_of_cell? w _ y2)).trans y2
                replace y3 := (hb.cell (World.block_lt_of_cell? w _ y3)).trans y3
                have c0 := (hb.cell (World.block_lt_of_cell? w _ x2w)).trans x2w
                obtain ⟨⟨sk, sd, sv, sok⟩, hs⟩ : ∃ t, lastT ws ck = t := ⟨_, rfl⟩
                obtain ⟨r, hr⟩ : ∃ r, commN P cf P.length = r := ⟨_, rfl⟩
                obtain ⟨dl, hdl⟩ : ∃ dl, (P.drop b).any (delE ck) = dl := ⟨_, rfl⟩
                have hok : okB P b ⟨ck, ci, cv, cf⟩ = (!sok || (if ci = true then decide ((b : Int) ≤ r) else dl)) := by
                  unfold okB
                  simp only [← Hws.out, hs, hr, hdl]
                rw [hok] at hsn
                have hqn := hq.out
                rw [hsn] at hqn
                have Hqn := Lib.hid hqn
                have Hs := Lib.hid hs
                have Hr := Lib.hid hr
                have Hdl := Lib.hid hdl
                clear hok hsn hq hqn hs hr hdl
                have b9 := below_alloc hb (.cells #[.string ck, .bool ci, .string cv, .int .u32 cf] 98)
                have h9 := heap_alloc_new wr (.cells #[.string ck, .bool ci, .string cv, .int .u32 cf] 98)
                have c9 := (below_alloc (Below.refl wr.heap.size wr) (.cells #[.string ck, .bool ci, .string cv, .int .u32 cf] 98)).cell (World.block_lt_of_cell? wr _ c0) |>.trans c0
                go_upto_region 10 with (fail)
                generalize wr.alloc (.cells #[.string ck, .bool ci, .string cv, .int .u32 cf] 98) = w9 at b9 h9 c9 ⊢
                have k0 : w9.cell? ⟨wr.heap.size, 0, none⟩ = some (.string ck) := Lib.cell_of_heap h9 0
                have k1 : w9.cell? ⟨wr.heap.size, 1, none⟩ = some (.bool ci) := Lib.cell_of_heap h9 1
                have k3 : w9.cell? ⟨wr.heap.size, 3, none⟩ = some (.int .u32 cf) := Lib.cell_of_heap h9 3
                clear h9 y0 y1 y2 y3 c0
                go_cut [13] (fun v13 wc => v13 = .bool sok ∧ Below w9.heap.size w9 wc)
                case first =>
                  have zz : ∀ W, Below w9.heap.size w9 W → W.cell? ⟨(ad.add (b * 5)).block, (ad.add (b * 5)).off + 2, none⟩ = some (.slice A4 nw c4) ∧ W.cell? ⟨wr.heap.size, 0, none⟩ = some (.string ck) := fun W hW =>
                    ⟨(hW.cell (World.block_lt_of_cell? w9 _ c9)).trans c9, (hW.cell (World.block_lt_of_cell? w9 _ k0)).trans k0⟩
                  have step : ∀ (key tk : ByteArray) (td : Bool) (tv : ByteArray) (tok : Bool) (W : World), Below w9.heap.size w9 W → lastT ws key = (tk, td, tv, tok) → Calls Tryd.prog 104 #[.slice A4 nw c4, .string key] W fun e w' => e = .returned (.tuple #[.agg #[.string tk, .bool td, .string tv], .bool tok]) ∧ Below w9.heap.size w9 w' ∧ Below W.heap.size W w' := fun key tk td tv tok W hW ht =>
                    (last_at A4 c4 nw ws key tk td tv tok W Hnw.out (Kd.C_below g2 (below_then b9 b9.size hW)) Hl2.out Hwl.out ht).mono fun _ _ h => ⟨h.1, below_then hW hW.size h.2, h.2⟩
                  go_wp2_with fail
                  go_region_held3 (fun W => W.cell? ⟨(ad.add (b * 5)).block, (ad.add (b * 5)).off + 2, none⟩ = some (.slice A4 nw c4) ∧ W.cell? ⟨wr.heap.size, 0, none⟩ = some (.string ck)) (exact zz _ (by repeat (first | assumption | exact Below.refl _ _ | exact below_set3 (by assumption) (Nat.le_refl _) _ _ _ | apply below_drew | apply below_alloc)))
                    ((go_at_call 104; refine (step ck sk sd sv sok _ (by repeat (first | assumption | exact Below.refl _ _ | exact below_set3 (by assumption) (Nat.le_refl _) _ _ _ | apply below_drew | apply below_alloc)) Hs.out).mono ?_; rintro e w5 ⟨rfl, hb5, hbW⟩; obtain ⟨hcb, hfb⟩ := bcell hbW))
                  all_goals (
                    go_wp2_with fail
                    go_meet
                    case rel => first
                      | exact ⟨rfl, below_alloc hb5 _⟩
                      | exact ⟨rfl, below_set3 hb5 (Nat.le_refl _) _ _ _⟩)
                case rest =>
                  obtain ⟨rfl, hb5⟩ := hcut
                  have hbw := below_then b9 b9.size hb5
                  replace k0 := (hb5.cell (World.block_lt_of_cell? w9 _ k0)).trans k0
                  replace k1 := (hb5.cell (World.block_lt_of_cell? w9 _ k1)).trans k1
                  replace k3 := (hb5.cell (World.block_lt_of_cell? w9 _ k3)).trans k3
                  clear c9 b9 hb5
                  cases sok
                  · go_wp2
                    go_roundw
                    case rel => exact ⟨j + 1, hlj, by simp, hbw, ⟨by have h := Hqn.out; simpa using h⟩⟩
                    case measure => simp [intOf]; omega
                  · cases ci
                    · have hsl : ∃ TA, (if c = b then some ad else (some ad).map (·.add (b * 5))) = TA := ⟨_, rfl⟩
                      obtain ⟨TA, hTA⟩ := hsl
                      have hsl : ∀ W, (Instr.slice 47 (.slice (some ad) n c) (some (.int .i64 (b : Int))) none none).run Tryd.prog W = .ok (.slice TA (n - b) (c - b)) W := fun W => by rw [← hTA]; exact slice_tail47 (some ad) n c b (by omega) W
                      have hCd : Kd.C k43 w TA (P.drop b).length (P.drop b) := by rw [← hTA]; exact Kd.C_drop hC (by rw [Hn.out]; omega) Hc.out
                      have hdn : (P.drop b).length = n - b := by rw [List.length_drop, Hn.out]
                      have step : ∀ W, Below wc.heap.size wc W → Calls Tryd.prog 105 #[.slice TA (n - b) (c - b), .string ck] W fun e w' => e = .returned (.bool dl) ∧ Below wc.heap.size wc w' := fun W hW =>
                        (del_at TA (c - b) (n - b) (P.drop b) ck dl W hdn (Kd.C_below hCd (below_then hbw hbw.size hW)) (by rw [hdn]; have := Hc.out; rw [Hn.out] at this; omega) (by rw [hdn]; omega) (fun e he => HW.out e (List.mem_of_mem_drop he)) Hdl.out).mono fun _ _ h => ⟨h.1, below_then hW hW.size h.2⟩
                      have zz : ∀ W, Below wc.heap.size wc W → W.cell? ⟨wr.heap.size, 0, none⟩ = some (.string ck) ∧ W.cell? ⟨wr.heap.size, 1, none⟩ = some (.bool false) := fun W hW =>
                        ⟨(hW.cell (World.block_lt_of_cell? wc _ k0)).trans k0, (hW.cell (World.block_lt_of_cell? wc _ k1)).trans k1⟩
                      clear hTA hdn hCd
                      go_upto_region 12 with (fail)
                      go_still_tail 20, (by kernel_rfl)
                      change wpList _ _ _ _ _ wc.drew
                      go_wp2_with fail
                      refine (step _ (below_drew (Below.refl _ _))).mono ?_
                      rintro e w6 ⟨rfl, hb6⟩
                      have hbx := below_then hbw hbw.size hb6
                      clear step zz hsl k0 k1 k3
                      cases dl
                      · go_wp2
                        go_ret
                        exact ⟨by have h := Hqn.out; rw [← h, V1.out]; rfl, hbx⟩
                      · go_wp2
                        go_roundw
                        case rel => exact ⟨j + 1, hlj, by simp, hbx, ⟨by have h := Hqn.out; simpa using h⟩⟩
                        case measure => simp [intOf]; omega
                    · have cm := fun W (h : Below w.heap.size w W) => comm_at (some ad) c n P cf r W Hn.out (Kd.C_below hC h) Hc.out (by rw [Hn.out]; exact hnP) Hr.out
                      by_cases hrb : r < b
                      · have v3 : decide (r < (b : Int)) = true := decide_eq_true hrb
                        go_upto_region 12 with (fail)
                        go_quiet ((go_at_call 103; exact Calls.quiet_of (cm _ (pw_below_drewN hbw _))))
                        go_wp2
                        go_ret
                        exact ⟨by have h := Hqn.out; rw [← h, V1.out, decide_eq_false (by omega)]; rfl, pw_below_drewN hbw _⟩
                      · have v3 : decide (r < (b : Int)) = false := decide_eq_false hrb
                        go_upto_region 12 with (fail)
                        go_quiet ((go_at_call 103; exact Calls.quiet_of (cm _ (pw_below_drewN hbw _))))
                        go_wp2
                        go_roundw
                        case rel => exact ⟨j + 1, hlj, by simp, pw_below_drewN hbw _, ⟨by have h := Hqn.out; rw [decide_eq_true (by omega)] at h; simpa using h⟩⟩
                        case measure => simp [intOf]; omega
              · have hje : j = all.length := by omega
                subst hje
                have hq2 := hq.out
                rw [List.drop_length] at hq2
                have Hq2 := Lib.hid hq2
                clear hq hq2
                go_wp2
                go_ret
                exact ⟨by rw [← Hq2.out, V1.out]; rfl, hb⟩
end Go.Proofs.YtfaelejeihmgcaaDoor.Lgx
end

section
namespace Go.Proofs.YtfaelejeihmgcaaDoor.Lgx
open Go.RowKit Go.Proofs.YtfaelejeihmgcaaDoorW.PrintWords Go.Proofs.YtfaelejeihmgcaaDoorW.PrintLast
theorem rfind_at (A : Option Addr) (c n : Nat) (l : List S101) (key tk : ByteArray) (td : Bool) (tv : ByteArray) (tok : Bool) (w : World) (hn : l.length = n) (hr : Kd.C k101 w A l.length l) (hc : l.length ≤ c) (hl : l.length ≤ 1000) (ht : lastT l key = (tk, td, tv, tok)) :
    Calls Tryd.prog 107 #[.slice A n c, .string key] w fun e w' => e = .returned (.tuple #[.agg #[.string tk, .bool td, .string tv], .bool tok]) ∧ Below w.heap.size w w' := by
  subst hn
  exact cachepotref1_BatchFind.calls 1001 A c l key tk td tv tok w hr hc (by rw [rfind_f l hl key 1001 (by decide), ht])
theorem rcomm_at (A : Option Addr) (c n : Nat) (P : List S43) (seq r : Int) (at_ : Nat) (w : World) (hn : P.length = n) (hr : Kd.C k43 w A P.length P) (hc : P.length ≤ c) (hl : P.length ≤ 1000) (hat : at_ ≤ P.length) (ht : commN P seq at_ = r) :
    Calls Tryd.prog 106 #[.slice A n c, .int .u32 seq, .int .i64 (at_ : Int)] w fun e w' => e = .returned (.int .i64 r) ∧ ∃ n, w' = w.drewN n := by
  subst hn
  exact (cachepotref3_committed.calls 1001 A c P seq at_ r w hr hc (by rw [rcomm_f P hl seq at_ hat 1001 (by decide), ht])).mono fun _ _ h => ⟨h.1, h.2.out⟩
theorem later_at (A : Option Addr) (c n : Nat) (P : List S43) (ck : ByteArray) (ci : Bool) (cv : ByteArray) (cf : Int) (b at_ : Nat) (r : Bool) (w : World) (hn : P.length = n) (hr : Kd.C k43 w A P.length P) (hc : P.length ≤ c) (hl : P.length ≤ 1000) (hw : ∀ e ∈ P, e.f2.length ≤ 1000) (hb : b ≤ at_) (hat : at_ ≤ P.length) (ht : laterB P ⟨ck, ci, cv, cf⟩ b at_ = r) :
    Calls Tryd.prog 108 #[.slice A n c, .agg #[.string ck, .bool ci, .string cv, .int .u32 cf], .int .i64 (b : Int), .int .i64 (at_ : Int)] w fun e w' => e = .returned (.bool r) ∧ Below w.heap.size w w' := by
  subst hn
  exact cachepotref3_later.calls 2010 A c P ck ci cv cf b at_ r w hr hc (by rw [show cachepotref3_later.f 2010 P ck ci cv cf b at_ = _ from later_f P hl hw ⟨ck, ci, cv, cf⟩ b at_ hb hat 2010 (by decide), ht])
def rlist (x : List S43) (at_ : Nat) (all : List S98) : List S98 → Bool
  | [] => true
  | a :: l => (!a.f1 || wholeR x at_ a all) && rlist x at_ all l
theorem rlist_all (x : List S43) (at_ : Nat) (all : List S98) : ∀ l : List S98, rlist x at_ all l = l.all (fun a => !a.f1 || wholeR x at_ a all)
  | [] => rfl
  | c :: l => by rw [rlist, rlist_all x at_ all l, List.all_cons]
def olist (x : List S43) (b at_ : Nat) : List S98 → Bool
  | [] => true
  | c :: l => okR2 x b at_ c && olist x b at_ l
theorem olist_all (x : List S43) (b at_ : Nat) : ∀ l : List S98, olist x b at_ l = l.all (okR2 x b at_)
  | [] => rfl
  | c :: l => by rw [olist, olist_all x b at_ l, List.all_cons]
set_option maxHeartbeats 16000000 in
set_option maxRecDepth 100000 in
theorem ref_wholeAt_walk (A : Option Addr) (c : Nat) (P : List S43) (at_ : Nat) (w : World) (hC : Kd.C k43 w A P.length P) (hc : P.length ≤ c) (hP : P.length ≤ 1000) (hw : ∀ e ∈ P, e.f2.length ≤ 1000) (hw3 : ∀ e ∈ P, e.f3.length ≤ 1000) (hatP : at_ < P.length) :
    Calls Tryd.prog 80 #[.slice A P.length c, .int .i64 (at_ : Int)] w fun e w' => e = .returned (.bool (wholeAtB P at_)) ∧ Below w.heap.size w w' := by
  have HW := Lib.hid hw
  have Hc := Lib.hid hc
  obtain ⟨n, hn⟩ : ∃ n, P.length = n := ⟨_, rfl⟩
  have Hn := Lib.hid hn
  have hnP : n ≤ 1000 := by omega
  have hat : at_ < n := by omega
  obtain ⟨ad, A4, c4, A5, c5, A6, c6, e, x0, x1, x2, x3, x4, l2, g2, l3, g3, l4, g4⟩ := at_T43 hC at_ (by omega) (by omega)
  cases e
  clear x0 x1 x2 x4 l2 g2 l4 g4
  simp only [Int.toNat_natCast] at x3
  have hres : wholeAtB P at_ = rlist P at_ (rd_T43 P (at_ : Int)).f3 (rd_T43 P (at_ : Int)).f3 := by rw [rlist_all]; rfl
  have hal : (rd_T43 P (at_ : Int)).f3.length ≤ 1000 := by
    rw [rd43 hatP]
    exact hw3 _ (List.getElem_mem hatP)
  rw [hres]
  generalize (rd_T43 P (at_ : Int)).f3 = all at x3 l3 g3 hal ⊢
  have Hl3 := Lib.hid l3
  rw [hn]
  clear hres hn hw hc hw3 hP hatP l3
  go_enter Tryd.func80, Tryd.ntmps80
  go_wp2_with fail
  go_loopw [6] (fun i wr => ∃ j : Nat, j ≤ all.length ∧ i = .int .i64 j ∧ Below w.heap.size w wr ∧ Aside0 (rlist P at_ all (all.drop j) = rlist P at_ all all)) (fun i _ => all.length - (intOf i).toNat)
  case atStart => exact ⟨0, Nat.zero_le _, rfl, Below.refl _ _, ⟨by rw [List.drop_zero]⟩⟩
  case round =>
    obtain ⟨j, hjl, rfl, hb, hq⟩ := hrel
    by_cases hlj : j < all.length
    · obtain ⟨ad2, e2, y0, y1, y2, y3⟩ := at_T98 g3 j (by omega) (by omega)
      cases e2
      rw [rd98 hlj] at y0 y1 y2 y3
      simp only [Int.toNat_natCast] at y0 y1 y2 y3
      have hsn : rlist P at_ all (all.drop j) = ((!all[j].f1 || wholeR P at_ all[j] all) && rlist P at_ all (all.drop (j + 1))) := by rw [List.drop_eq_getElem_cons hlj, rlist]
      obtain ⟨x, hx⟩ : ∃ x, x = all[j] := ⟨_, rfl⟩
      rw [← hx] at y0 y1 y2 y3 hsn
      clear hx
      obtain ⟨ak, ai, av, af⟩ := x
      have hqn := hq.out
      rw [hsn] at hqn
      have Hqn := Lib.hid hqn
      clear hsn hq hqn
      have z0 := (hb.cell (World.block_lt_of_cell? w _ y0)).trans y0
      have z1 := (hb.cell (World.block_lt_of_cell? w _ y1)).trans y1
      have z2 := (hb.cell (World.block_lt_of_cell? w _ y2)).trans y2
      have z3 := (hb.cell (World.block_lt_of_cell? w _ y3)).trans y3
      cases ai
      · go_wp2
        go_roundw
        case rel => exact ⟨j + 1, hlj, by simp, hb, ⟨by have h := Hqn.out; simpa using h⟩⟩
        case measure => simp [intOf]; omega
      · obtain ⟨r, hr⟩ : ∃ r, commN P af at_ = r := ⟨_, rfl⟩
        have hlt := commN_lt P af at_
        rw [hr] at hlt
        have Hr := Lib.hid hr
        have cm := fun W (h : Below w.heap.size w W) => rcomm_at (some ad) c n P af r at_ W Hn.out (Kd.C_below hC h) Hc.out (by rw [Hn.out]; exact hnP) (by rw [Hn.out]; omega) Hr.out
        clear hr
        go_wp2_with fail
        refine (cm wr hb).mono ?_
        rintro e w2 ⟨rfl, q, rfl⟩
        have hb2 := pw_below_drewN hb q
        clear cm z0 z1 z2 z3
        generalize wr.drewN q = w2 at hb2 ⊢
        by_cases hneg : r < 0
        · have d1 : decide (r < 0) = true := decide_eq_true hneg
          go_wp2
          go_ret
          exact ⟨by have h := Hqn.out; rw [← h]; simp [wholeR, Hr.out, hneg], hb2⟩
        · obtain ⟨b, rfl⟩ : ∃ b : Nat, r = b := ⟨r.toNat, by omega⟩
          have hba : b < at_ := by omega
          have hbn : b < n := by omega
          have d1 : decide ((b : Int) < 0) = false := decide_eq_false (by omega)
          obtain ⟨ade, A7, c7, A8, c8, A9, c9, e, x0, x1, x2, x4, x5, l2, g2, l3, g3', l4, g4⟩ := at_T43 hC b (by omega) (by rw [Hn.out]; omega)
          cases e
          have hbP : b < P.length := by rw [Hn.out]; omega
          have hwl : (rd_T43 P (b : Int)).f2.length ≤ 1000 := by
            rw [rd43 hbP]
            exact HW.out _ (List.getElem_mem hbP)
          clear x0 x1 x4 x5 l3 g3' l4 g4
          simp only [Int.toNat_natCast] at x2
          obtain ⟨⟨tk, td, tv, tok⟩, ht⟩ : ∃ t, lastT (rd_T43 P (b : Int)).f2 ak = t := ⟨_, rfl⟩
          have hwv : wholeR P at_ ⟨ak, true, av, af⟩ all = ((tok && (!td && (tv.toList == av.toList))) && olist P b at_ all) := by
            unfold wholeR goodB
            rw [Hr.out, if_neg hneg, Int.toNat_natCast, olist_all]
            simp only [ht]
          have hqn := Hqn.out
          rw [hwv] at hqn
          replace Hqn := Lib.hid hqn
          obtain ⟨ws, hws⟩ : ∃ ws, ws = (rd_T43 P (b : Int)).f2 := ⟨_, rfl⟩
          rw [← hws] at x2 l2 g2 hwl ht
          obtain ⟨nw, hnw⟩ : ∃ nw, ws.length = nw := ⟨_, rfl⟩
          have Hws := Lib.hid hws
          have Hnw := Lib.hid hnw
          have Ht := Lib.hid ht
          have Hl2 := Lib.hid l2
          have Hwl := Lib.hid hwl
          rw [hnw] at x2
          clear hwv hqn hws hnw ht l2 hwl hlt hneg hbP hb
          have c0 := (hb2.cell (World.block_lt_of_cell? w _ x2)).trans x2
          have c1 := (hb2.cell (World.block_lt_of_cell? w _ y0)).trans y0
          have zz : ∀ W, Below w2.heap.size w2 W → W.cell? ⟨(ad.add (b * 5)).block, (ad.add (b * 5)).off + 2, none⟩ = some (.slice A7 nw c7) ∧ W.cell? (ad2.add (j * 4)) = some (.string ak) := fun W hW =>
            ⟨(hW.cell (World.block_lt_of_cell? w2 _ c0)).trans c0, (hW.cell (World.block_lt_of_cell? w2 _ c1)).trans c1⟩
          have step : ∀ (key tk : ByteArray) (td : Bool) (tv : ByteArray) (tok : Bool) (W : World), Below w2.heap.size w2 W → lastT ws key = (tk, td, tv, tok) → Calls Tryd.prog 107 #[.slice A7 nw c7, .string key] W fun e w' => e = .returned (.tuple #[.agg #[.string tk, .bool td, .string tv], .bool tok]) ∧ Below w2.heap.size w2 w' ∧ Below W.heap.size W w' := fun key tk td tv tok W hW ht =>
            (rfind_at A7 c7 nw ws key tk td tv tok W Hnw.out (Kd.C_below g2 (below_then hb2 hb2.size hW)) Hl2.out Hwl.out ht).mono fun _ _ h => ⟨h.1, below_then hW hW.size h.2, h.2⟩
          go_upto_region 9 with (fail)
          go_cut [8, 9] (fun v8 v9 wc => ∃ g : Nat, v8 = .pointer (some ⟨g, 0, none⟩) ∧ v9 = .bool tok ∧ wc.heap[g]? = some (.cells #[.string tk, .bool td, .string tv] 101) ∧ w2.heap.size ≤ g ∧ Below w2.heap.size w2 wc)
          case first =>
            go_wp2_with fail
            go_region_held3 (fun W => W.cell? ⟨(ad.add (b * 5)).block, (ad.add (b * 5)).off + 2, none⟩ = some (.slice A7 nw c7) ∧ W.cell? (ad2.add (j * 4)) = some (.string ak)) (exact zz _ (by repeat (first | assumption | exact Below.refl _ _ | exact below_set3 (by assumption) (Nat.le_refl _) _ _ _ | apply below_drew | apply below_alloc)))
              ((go_at_call 107; refine (step ak tk td tv tok _ (by repeat (first | assumption | exact Below.refl _ _ | exact below_set3 (by assumption) (Nat.le_refl _) _ _ _ | apply below_drew | apply below_alloc)) Ht.out).mono ?_; rintro e w5 ⟨rfl, hb5, hbW⟩; obtain ⟨hcb, hfb⟩ := bcell hbW))
            all_goals (
              go_wp2_with fail
              go_meet
              case rel => first
                | exact ⟨_, rfl, rfl, heap_alloc_new _ _, hb5.size, below_alloc hb5 _⟩
                | exact ⟨_, rfl, rfl, set3 ((hbW.block w2.heap.size (by simp)).trans (heap_alloc_new w2.drew _)) _ _ _, Nat.le_refl _, below_set3 hb5 (Nat.le_refl _) _ _ _⟩)
          case rest =>
            obtain ⟨g, rfl, rfl, hg, hgl, hb5⟩ := hcut
            have hbw := below_then hb2 hb2.size hb5
            have t1 : wc.cell? ⟨g, 1, none⟩ = some (.bool td) := Lib.cell_of_heap hg 1
            have t2 : wc.cell? ⟨g, 2, none⟩ = some (.string tv) := Lib.cell_of_heap hg 2
            have t3 := (hbw.cell (World.block_lt_of_cell? w _ y2)).trans y2
            clear zz step hg c0 c1 hb2 hb5
            cases tok
            · go_upto_region 10 with (fail)
              go_quiet (fail)
              go_wp2
              go_ret
              exact ⟨by have h := Hqn.out; rw [← h]; simp, pw_below_drewN hbw _⟩
            · cases td
              rotate_left
              · go_upto_region 10 with (fail)
                go_quiet (fail)
                go_wp2
                go_ret
                exact ⟨by have h := Hqn.out; rw [← h]; simp, pw_below_drewN hbw _⟩
              · by_cases hv : tv.toList = av.toList
                rotate_left
                · have v1 : (tv.toList == av.toList) = false := beq_eq_false_iff_ne.2 hv
                  have v2 : (tv.toList != av.toList) = true := bne_iff_ne.2 hv
                  have V1 := Lib.hid v1
                  clear hv
                  go_upto_region 10 with (fail)
                  go_quiet (fail)
                  go_wp2
                  go_ret
                  exact ⟨by have h := Hqn.out; rw [← h, V1.out]; simp, pw_below_drewN hbw _⟩
                · have v1 : (tv.toList == av.toList) = true := beq_iff_eq.2 hv
                  have v2 : (tv.toList != av.toList) = false := bne_eq_false_iff_eq.2 hv
                  have V1 := Lib.hid v1
                  clear hv
                  go_upto_region 10 with (fail)
                  go_quiet (fail)
                  go_wp2_with fail
                  go_loopw [10] (fun i wr => ∃ k : Nat, k ≤ all.length ∧ i = .int .i64 k ∧ Below w.heap.size w wr ∧ Aside0 (olist P b at_ (all.drop k) = olist P b at_ all)) (fun i _ => all.length - (intOf i).toNat)
                  case atStart => exact ⟨0, Nat.zero_le _, rfl, pw_below_drewN hbw _, ⟨by rw [List.drop_zero]⟩⟩
                  case round =>
                    clear hbw t1 t2 t3 v1 v2 y0 y1 y2 y3
                    obtain ⟨k, hkl, rfl, hb, hq⟩ := hrel
                    by_cases hlk : k < all.length
                    · obtain ⟨ad3, e3, y0, y1, y2, y3⟩ := at_T98 g3 k (by omega) (by omega)
                      cases e3
                      rw [rd98 hlk] at y0 y1 y2 y3
                      simp only [Int.toNat_natCast] at y0 y1 y2 y3
                      have hsn : olist P b at_ (all.drop k) = (okR2 P b at_ all[k] && olist P b at_ (all.drop (k + 1))) := by rw [List.drop_eq_getElem_cons hlk, olist]
                      obtain ⟨x, hx⟩ : ∃ x, x = all[k] := ⟨_, rfl⟩
                      rw [← hx] at y0 y1 y2 y3 hsn
                      clear hx
                      obtain ⟨ck, ci, cv, cf⟩ := x
                      obtain ⟨⟨sk, sd, sv, sok⟩, hs⟩ : ∃ t, lastT ws ck = t := ⟨_, rfl⟩
                      obtain ⟨lt, hlt⟩ : ∃ lt, laterB P ⟨ck, ci, cv, cf⟩ b at_ = lt := ⟨_, rfl⟩
                      have hok : okR2 P b at_ ⟨ck, ci, cv, cf⟩ = (!sok || lt) := by
                        unfold okR2
                        simp only [← Hws.out, hs, hlt]
                      rw [hok] at hsn
                      have hqn := hq.out
                      rw [hsn] at hqn
                      have Hq3 := Lib.hid hqn
                      have Hs := Lib.hid hs
                      have Hlt := Lib.hid hlt
                      clear hok hsn hq hqn hs hlt
                      have c0 := (hb.cell (World.block_lt_of_cell? w _ x2)).trans x2
                      have c1 := (hb.cell (World.block_lt_of_cell? w _ y0)).trans y0
                      go_upto_region 15 with (fail)
                      go_cut [12] (fun v12 wc => v12 = .bool sok ∧ Below wr.heap.size wr wc)
                      case first =>
                        have zz : ∀ W, Below wr.heap.size wr W → W.cell? ⟨(ad.add (b * 5)).block, (ad.add (b * 5)).off + 2, none⟩ = some (.slice A7 nw c7) ∧ W.cell? (ad2.add (k * 4)) = some (.string ck) := fun W hW =>
                          ⟨(hW.cell (World.block_lt_of_cell? wr _ c0)).trans c0, (hW.cell (World.block_lt_of_cell? wr _ c1)).trans c1⟩
                        have step : ∀ (key tk : ByteArray) (td : Bool) (tv : ByteArray) (tok : Bool) (W : World), Below wr.heap.size wr W → lastT ws key = (tk, td, tv, tok) → Calls Tryd.prog 107 #[.slice A7 nw c7, .string key] W fun e w' => e = .returned (.tuple #[.agg #[.string tk, .bool td, .string tv], .bool tok]) ∧ Below wr.heap.size wr w' ∧ Below W.heap.size W w' := fun key tk td tv tok W hW ht =>
                          (rfind_at A7 c7 nw ws key tk td tv tok W Hnw.out (Kd.C_below g2 (below_then hb hb.size hW)) Hl2.out Hwl.out ht).mono fun _ _ h => ⟨h.1, below_then hW hW.size h.2, h.2⟩
                        go_wp2_with fail
                        go_region_held3 (fun W => W.cell? ⟨(ad.add (b * 5)).block, (ad.add (b * 5)).off + 2, none⟩ = some (.slice A7 nw c7) ∧ W.cell? (ad2.add (k * 4)) = some (.string ck)) (exact zz _ (by repeat (first | assumption | exact Below.refl _ _ | exact below_set3 (by assumption) (Nat.le_refl _) _ _ _ | apply below_drew | apply below_alloc)))
                          ((go_at_call 107; refine (step ck sk sd sv sok _ (by repeat (first | assumption | exact Below.refl _ _ | exact below_set3 (by assumption) (Nat.le_refl _) _ _ _ | apply below_drew | apply below_alloc)) Hs.out).mono ?_; rintro e w5 ⟨rfl, hb5, hbW⟩; obtain ⟨hcb, hfb⟩ := bcell hbW))
                        all_goals (
                          go_wp2_with fail
                          go_meet
                          case rel => first
                            | exact ⟨rfl, below_alloc hb5 _⟩
                            | exact ⟨rfl, below_set3 hb5 (Nat.le_refl _) _ _ _⟩)
                      case rest =>
                        obtain ⟨rfl, hb5⟩ := hcut
                        have hbw := below_then hb hb.size hb5
                        clear c0 c1 hb5 hb
                        cases sok
                        · clear y0 y1 y2 y3
                          go_wp2
                          go_roundw
                          case rel => exact ⟨k + 1, hlk, by simp, hbw, ⟨by have h := Hq3.out; simpa using h⟩⟩
                          case measure => simp [intOf]; omega
                        · replace y0 := (hbw.cell (World.block_lt_of_cell? w _ y0)).trans y0
                          replace y1 := (hbw.cell (World.block_lt_of_cell? w _ y1)).trans y1
                          replace y2 := (hbw.cell (World.block_lt_of_cell? w _ y2)).trans y2
                          replace y3 := (hbw.cell (World.block_lt_of_cell? w _ y3)).trans y3
                          go_wp2_with fail
                          refine (later_at (some ad) c n P ck ci cv cf b at_ lt wc Hn.out (Kd.C_below hC hbw) Hc.out (by rw [Hn.out]; exact hnP) HW.out (by omega) (by rw [Hn.out]; omega) Hlt.out).mono ?_
                          rintro e w6 ⟨rfl, hb6⟩
                          have hbx := below_then hbw hbw.size hb6
                          clear y0 y1 y2 y3
                          cases lt
                          · go_wp2
                            go_ret
                            exact ⟨by have h := Hqn.out; rw [← h, V1.out, ← Hq3.out]; rfl, hbx⟩
                          · go_wp2
                            go_roundw
                            case rel => exact ⟨k + 1, hlk, by simp, hbx, ⟨by have h := Hq3.out; simpa using h⟩⟩
                            case measure => simp [intOf]; omega
                    · have hke : k = all.length := by omega
                      subst hke
                      have hq2 := hq.out
                      rw [List.drop_length] at hq2
                      have Hq2 := Lib.hid hq2
                      clear hq hq2
                      go_wp2
                      go_roundw
                      case rel => exact ⟨j + 1, hlj, by simp, hb, ⟨by have h := Hqn.out; rw [V1.out, ← Hq2.out] at h; simpa [olist] using h⟩⟩
                      case measure => simp [intOf]; omega
    · have hje : j = all.length := by omega
      subst hje
      have hq2 := hq.out
      rw [List.drop_length] at hq2
      have Hq2 := Lib.hid hq2
      clear hq hq2
      go_wp2
      go_ret
      exact ⟨by rw [← Hq2.out]; rfl, hb⟩
end Go.Proofs.YtfaelejeihmgcaaDoor.Lgx
end

section
namespace Go.Proofs.YtfaelejeihmgcaaDoor.Lgx
open Go.RowKit Go.Proofs.YtfaelejeihmgcaaDoorW.PrintWords Go.Proofs.YtfaelejeihmgcaaDoorW.PrintLast
theorem whole_at (A : Option Addr) (c n : Nat) (P : List S43) (ak : ByteArray) (ai : Bool) (av : ByteArray) (af : Int) (A2 : Option Addr) (c2 : Nat) (all : List S98) (r : Bool) (w : World) (hn : P.length = n) (hC : Kd.C k43 w A P.length P) (hc : P.length ≤ c) (hP : P.length ≤ 1000) (hw : ∀ e ∈ P, e.f2.length ≤ 1000)
    (hC2 : Kd.C k98 w A2 all.length all) (hall : all.length ≤ 1000) (hr : wholeB P ⟨ak, ai, av, af⟩ all = r) :
    Calls Tryd.prog 79 #[.slice A n c, .agg #[.string ak, .bool ai, .string av, .int .u32 af], .slice A2 all.length c2] w fun e w' => e = .returned (.bool r) ∧ Below w.heap.size w w' := by
  subst hn
  rw [← hr]
  exact ledger_whole_walk A c P ak ai av af A2 c2 all w hC hc hP hw hC2 hall
theorem slice_head47w (A : Option Addr) (n c j : Nat) (hj : j ≤ n) (hc : n ≤ c) (W : World) : (Instr.slice 47 (.slice A n c) none (some (.int .i64 (j : Int))) none).run Tryd.prog W = .ok (.slice A j c) W := by
  have hjc : j ≤ c := by omega
  go_simp
def llist (P : List S43) (all : List S98) : List S98 → Bool
  | [] => true
  | a :: l => (!a.f1 || wholeB P a all) && llist P all l
theorem llist_all (P : List S43) (all : List S98) : ∀ l : List S98, llist P all l = l.all (fun a => !a.f1 || wholeB P a all)
  | [] => rfl
  | c :: l => by rw [llist, llist_all P all l, List.all_cons]
set_option maxHeartbeats 16000000 in
set_option maxRecDepth 100000 in
theorem ledger_Whole_walk (A : Option Addr) (c : Nat) (x : List S43) (r1 : Int) (r2 : Bool) (w : World) (hC : Kd.C k43 w A x.length x) (hc : x.length ≤ c) (hx : x.length ≤ 1000) (hw : ∀ e ∈ x, e.f2.length ≤ 1000) (hw3 : ∀ e ∈ x, e.f3.length ≤ 1000) (hr : wholeF x 0 x = (r1, r2)) :
    Calls Tryd.prog 40 #[.slice A x.length c] w fun e w' => e = .returned (.tuple #[.int .i64 r1, .bool r2]) ∧ Below w.heap.size w w' := by
  have HW := Lib.hid hw
  have HW3 := Lib.hid hw3
  have Hc := Lib.hid hc
  have HR := Lib.hid hr
  clear hw hw3 hc hr
  go_enter Tryd.func40, Tryd.ntmps40
  go_wp2_with fail
  go_loopw [10] (fun i wr => ∃ k : Nat, k ≤ x.length ∧ i = .int .i64 k ∧ Below w.heap.size w wr ∧ Aside0 (wholeF x k (x.drop k) = (r1, r2))) (fun i _ => x.length - (intOf i).toNat)
  case atStart => exact ⟨0, Nat.zero_le _, rfl, Below.refl _ _, ⟨by rw [List.drop_zero]; exact HR.out⟩⟩
  case round =>
    clear HR
    obtain ⟨k, hkl, rfl, hb, hq⟩ := hrel
    by_cases hlt : k < x.length
    · obtain ⟨ad, A4, c4, A5, c5, A6, c6, e, x0, x1, x2, x3, x4, l2, g2, l3, g3, l4, g4⟩ := at_T43 hC k (by omega) (by omega)
      cases e
      have hsn : wholeF x k (x.drop k) = if x[k].f0 = 2 ∧ wholeAtB x k = false then ((k : Int), false) else wholeF x (k + 1) (x.drop (k + 1)) := by rw [List.drop_eq_getElem_cons hlt, wholeF]
      have hwa : wholeAtB x k = llist (x.take k) x[k].f3 x[k].f3 := by
        unfold wholeAtB
        rw [llist_all, rd43 hlt]
        congr 1
        funext a
        rw [whole_eq x k (by omega)]
      have hl3 := HW3.out _ (List.getElem_mem hlt)
      rw [rd43 hlt] at x0 x1 x2 x3 x4 l2 g2 l3 g3 l4 g4
      rw [hwa] at hsn
      obtain ⟨y, hy⟩ : ∃ y, y = x[k] := ⟨_, rfl⟩
      rw [← hy] at x0 x1 x2 x3 x4 l2 g2 l3 g3 l4 g4 hsn hl3
      have hqn := hq.out
      rw [hsn] at hqn
      have Hqn := Lib.hid hqn
      clear hy hwa hsn hq hqn
      simp only [Int.toNat_natCast] at x0 x1 x2 x3 x4
      replace x0 := (hb.cell (World.block_lt_of_cell? w _ x0)).trans x0
      replace x1 := (hb.cell (World.block_lt_of_cell? w _ x1)).trans x1
      replace x2 := (hb.cell (World.block_lt_of_cell? w _ x2)).trans x2
      replace x3 := (hb.cell (World.block_lt_of_cell? w _ x3)).trans x3
      replace x4 := (hb.cell (World.block_lt_of_cell? w _ x4)).trans x4
      have HL2 := Lib.hid l2
      have HL3 := Lib.hid l3
      have HL4 := Lib.hid l4
      clear l2 l3 l4
      obtain ⟨yk, ys, yw, ya, yy⟩ := y
      by_cases h2 : yk = 2
      · subst h2
        have t1 : ((2 : Int) != 2) = false := by decide
        obtain ⟨O, hO⟩ : ∃ O : Obj, O = Obj.cells #[.int .i64 2, .int .u32 ys, .slice A4 yw.length c4, .slice A5 ya.length c5, .slice A6 yy.length c6] 43 := ⟨_, rfl⟩
        go_wp2_with fail
        rw [← hO]
        have hb0 := below_alloc hb O
        have z3 : (wr.alloc O).cell? ⟨wr.heap.size, 3, none⟩ = some (.slice A5 ya.length c5) := by
          have h := Lib.cell_of_heap (heap_alloc_new wr (Obj.cells #[.int .i64 2, .int .u32 ys, .slice A4 yw.length c4, .slice A5 ya.length c5, .slice A6 yy.length c6] 43)) 3
          rw [hO, h]
          rfl
        clear hO x0 x1 x2 x3 x4 g2 g4
        obtain ⟨wo, hwo⟩ : ∃ wo : Nat, wo = wr.heap.size := ⟨_, rfl⟩
        rw [← hwo] at z3 ⊢
        generalize wr.alloc O = W0 at hb0 z3 ⊢
        clear hwo
        go_loopw [21] (fun i wi => ∃ j : Nat, j ≤ ya.length ∧ i = .int .i64 j ∧ Below W0.heap.size W0 wi ∧ Aside0 (llist (x.take k) ya (ya.drop j) = llist (x.take k) ya ya)) (fun i _ => ya.length - (intOf i).toNat)
        case atStart => exact ⟨0, Nat.zero_le _, rfl, Below.refl _ _, ⟨by rw [List.drop_zero]⟩⟩
        case round =>
          obtain ⟨j, hjl, rfl, hbi, hq⟩ := hrel
          have hbm : Below w.heap.size w wr := below_then hb0 hb0.size hbi
          have z4 := (hbi.cell (World.block_lt_of_cell? W0 _ z3)).trans z3
          by_cases hlj : j < ya.length
          · obtain ⟨ad3, e3, y0, y1, y2, y3⟩ := at_T98 g3 j (by omega) (by omega)
            cases e3
            rw [rd98 hlj] at y0 y1 y2 y3
            simp only [Int.toNat_natCast] at y0 y1 y2 y3
            replace y0 := (hbm.cell (World.block_lt_of_cell? w _ y0)).trans y0
            replace y1 := (hbm.cell (World.block_lt_of_cell? w _ y1)).trans y1
            replace y2 := (hbm.cell (World.block_lt_of_cell? w _ y2)).trans y2
            replace y3 := (hbm.cell (World.block_lt_of_cell? w _ y3)).trans y3
            have hsn : llist (x.take k) ya (ya.drop j) = ((!ya[j].f1 || wholeB (x.take k) ya[j] ya) && llist (x.take k) ya (ya.drop (j + 1))) := by rw [List.drop_eq_getElem_cons hlj, llist]
            obtain ⟨z, hz⟩ : ∃ z, z = ya[j] := ⟨_, rfl⟩
            rw [← hz] at y0 y1 y2 y3 hsn
            clear hz
            obtain ⟨ak, ai, av, af⟩ := z
            obtain ⟨v, hv⟩ : ∃ v, wholeB (x.take k) ⟨ak, ai, av, af⟩ ya = v := ⟨_, rfl⟩
            have hqn := hq.out
            rw [hsn, hv] at hqn
            have Hq2 := Lib.hid hqn
            have Hv := Lib.hid hv
            clear hsn hq hqn hv
            have b9 := below_alloc hbi (.cells #[.string ak, .bool ai, .string av, .int .u32 af] 98)
            have h9 := heap_alloc_new wr (.cells #[.string ak, .bool ai, .string av, .int .u32 af] 98)
            have z5 := ((below_alloc (Below.refl wr.heap.size wr) (.cells #[.string ak, .bool ai, .string av, .int .u32 af] 98)).cell (World.block_lt_of_cell? wr _ z4)).trans z4
            cases ai
            · go_upto_region 8 with (fail)
              go_quiet (fail)
              clear y0 y1 y2 y3
              go_wp2
              go_roundw
              case rel => exact ⟨j + 1, hlj, by simp, pw_below_drewN b9 _, ⟨by have h := Hq2.out; simpa using h⟩⟩
              case measure => simp [intOf]; omega
            · have hCt := Kd.C_take hC hkl
              have htl : (x.take k).length = k := by rw [List.length_take]; omega
              have hkc : k ≤ c := Nat.le_trans hkl Hc.out
              have hsl : ∀ W, (Instr.slice 47 (.slice (some ad) x.length c) none (some (.int .i64 (k : Int))) none).run Tryd.prog W = .ok (.slice (some ad) k c) W := fun W => slice_head47w (some ad) x.length c k hkl Hc.out W
              have step : ∀ W, Below w.heap.size w W → Calls Tryd.prog 79 #[.slice (some ad) k c, .agg #[.string ak, .bool true, .string av, .int .u32 af], .slice (some ad3) ya.length c5] W fun e w' => e = .returned (.bool v) ∧ Below W.heap.size W w' := fun W hW =>
                whole_at (some ad) c k (x.take k) ak true av af (some ad3) c5 ya v W htl (Kd.C_below hCt hW) (by rw [htl]; exact hkc) (by rw [htl]; omega) (fun e he => HW.out e (List.mem_of_mem_take he)) (Kd.C_below g3 hW) hl3 Hv.out
              clear hCt htl
              go_upto_region 8 with (fail)
              generalize wr.alloc (.cells #[.string ak, .bool true, .string av, .int .u32 af] 98) = w9 at b9 h9 z5 ⊢
              have k0 : w9.cell? ⟨wr.heap.size, 0, none⟩ = some (.string ak) := Lib.cell_of_heap h9 0
              have k1 : w9.cell? ⟨wr.heap.size, 1, none⟩ = some (.bool true) := Lib.cell_of_heap h9 1
              have k2 : w9.cell? ⟨wr.heap.size, 2, none⟩ = some (.string av) := Lib.cell_of_heap h9 2
              have k3 : w9.cell? ⟨wr.heap.size, 3, none⟩ = some (.int .u32 af) := Lib.cell_of_heap h9 3
              have hbx := below_then hb0 hb0.size b9
              clear h9 y0 y1 y2 y3 z4
              go_still_tail 9, (by kernel_rfl)
              change wpList _ _ _ _ _ w9.drew
              go_wp2_with fail
              refine (step _ (below_drew hbx)).mono ?_
              rintro e w6 ⟨rfl, hb6⟩
              have hb9 : Below W0.heap.size W0 w6 := below_then (below_drew b9) (below_drew b9).size hb6
              clear step hsl k0 k1 k2 k3 z5 hb6
              cases v
              · go_wp2
                go_ret2
                exact ⟨by have h := Hqn.out; rw [if_pos ⟨trivial, by rw [← Hq2.out]; rfl⟩] at h; simp only [Prod.mk.injEq] at h; obtain ⟨rfl, rfl⟩ := h; rfl, below_then hb0 hb0.size hb9⟩
              · go_wp2
                go_roundw
                case rel => exact ⟨j + 1, hlj, by simp, hb9, ⟨by have h := Hq2.out; simpa using h⟩⟩
                case measure => simp [intOf]; omega
          · have hje : j = ya.length := by omega
            subst hje
            have hq2 := hq.out
            rw [List.drop_length] at hq2
            have Hq2 := Lib.hid hq2
            clear hq hq2 z4
            go_wp2
            go_roundw
            case rel => exact ⟨k + 1, hlt, by simp, hbm, ⟨by have h := Hqn.out; rw [if_neg (by rw [← Hq2.out]; simp [llist])] at h; exact h⟩⟩
            case measure => simp [intOf]; omega
      · have t1 : (yk != 2) = true := bne_iff_ne.2 h2
        have hbx := below_alloc hb (.cells #[.int .i64 yk, .int .u32 ys, .slice A4 yw.length c4, .slice A5 ya.length c5, .slice A6 yy.length c6] 43)
        have Hn2 := Lib.hid h2
        clear h2
        go_wp2
        go_roundw
        case rel => exact ⟨k + 1, hlt, by simp, hbx, ⟨by have h := Hqn.out; rw [if_neg (fun h' => Hn2.out h'.1)] at h; exact h⟩⟩
        case measure => simp [intOf]; omega
    · have hke : k = x.length := by omega
      subst hke
      have hqs := hq.out
      rw [List.drop_length, wholeF] at hqs
      simp only [Prod.mk.injEq] at hqs
      obtain ⟨rfl, rfl⟩ := hqs
      clear hq
      go_wp2
      go_ret2
      exact ⟨rfl, hb⟩
set_option maxHeartbeats 16000000 in
set_option maxRecDepth 100000 in
theorem ref_Whole_walk (A : Option Addr) (c : Nat) (x : List S43) (r1 : Int) (r2 : Bool) (w : World) (hC : Kd.C k43 w A x.length x) (hc : x.length ≤ c) (hx : x.length ≤ 1000) (hw : ∀ e ∈ x, e.f2.length ≤ 1000) (hw3 : ∀ e ∈ x, e.f3.length ≤ 1000) (hr : wholeF x 0 x = (r1, r2)) :
    Calls Tryd.prog 41 #[.slice A x.length c] w fun e w' => e = .returned (.tuple #[.int .i64 r1, .bool r2]) ∧ Below w.heap.size w w' := by
  have HW := Lib.hid hw
  have HW3 := Lib.hid hw3
  have Hc := Lib.hid hc
  have HR := Lib.hid hr
  clear hw hw3 hc hr
  go_enter Tryd.func41, Tryd.ntmps41
  go_wp2_with fail
  go_loopw [4] (fun i wr => ∃ k : Nat, k ≤ x.length ∧ i = .int .i64 k ∧ Below w.heap.size w wr ∧ Aside0 (wholeF x k (x.drop k) = (r1, r2))) (fun i _ => x.length - (intOf i).toNat)
  case atStart => exact ⟨0, Nat.zero_le _, rfl, Below.refl _ _, ⟨by rw [List.drop_zero]; exact HR.out⟩⟩
  case round =>
    clear HR
    obtain ⟨k, hkl, rfl, hb, hq⟩ := hrel
    by_cases hlt : k < x.length
    · obtain ⟨ad, A4, c4, A5, c5, A6, c6, e, x0, x1, x2, x3, x4, l2, g2, l3, g3, l4, g4⟩ := at_T43 hC k (by omega) (by omega)
      cases e
      clear x1 x2 x3 x4 l2 g2 l3 g3 l4 g4
      have hsn : wholeF x k (x.drop k) = if x[k].f0 = 2 ∧ wholeAtB x k = false then ((k : Int), false) else wholeF x (k + 1) (x.drop (k + 1)) := by rw [List.drop_eq_getElem_cons hlt, wholeF]
      rw [rd43 hlt] at x0
      obtain ⟨yk, hy⟩ : ∃ y, y = x[k].f0 := ⟨_, rfl⟩
      obtain ⟨v, hv⟩ : ∃ v, v = wholeAtB x k := ⟨_, rfl⟩
      rw [← hy] at x0 hsn
      rw [← hv] at hsn
      have hqn := hq.out
      rw [hsn] at hqn
      have Hqn := Lib.hid hqn
      have Hv := Lib.hid hv
      clear hy hsn hq hqn hv
      simp only [Int.toNat_natCast] at x0
      replace x0 := (hb.cell (World.block_lt_of_cell? w _ x0)).trans x0
      by_cases h2 : yk = 2
      · subst h2
        have t1 : ((2 : Int) == 2) = true := by decide
        have step : ∀ W, Below w.heap.size w W → Calls Tryd.prog 80 #[.slice (some ad) x.length c, .int .i64 (k : Int)] W fun e w' => e = .returned (.bool v) ∧ Below W.heap.size W w' := fun W hW => by
          rw [Hv.out]
          exact ref_wholeAt_walk (some ad) c x k W (Kd.C_below hC hW) Hc.out hx HW.out HW3.out hlt
        go_wp2_with fail
        refine (step _ hb).mono ?_
        rintro e w6 ⟨rfl, hb6⟩
        have hb9 := below_then hb hb.size hb6
        clear step x0
        cases v
        · go_wp2
          go_ret2
          exact ⟨by have h := Hqn.out; rw [if_pos ⟨trivial, trivial⟩] at h; simp only [Prod.mk.injEq] at h; obtain ⟨rfl, rfl⟩ := h; rfl, hb9⟩
        · go_wp2
          go_roundw
          case rel => exact ⟨k + 1, hlt, by simp, hb9, ⟨by have h := Hqn.out; rw [if_neg (by simp)] at h; exact h⟩⟩
          case measure => simp [intOf]; omega
      · have t1 : (yk == 2) = false := beq_eq_false_iff_ne.2 h2
        have Hn2 := Lib.hid h2
        clear h2
        go_wp2
        go_roundw
        case rel => exact ⟨k + 1, hlt, by simp, hb, ⟨by have h := Hqn.out; rw [if_neg (fun h' => Hn2.out h'.1)] at h; exact h⟩⟩
        case measure => simp [intOf]; omega
    · have hke : k = x.length := by omega
      subst hke
      have hqs := hq.out
      rw [List.drop_length, wholeF] at hqs
      simp only [Prod.mk.injEq] at hqs
      obtain ⟨rfl, rfl⟩ := hqs
      clear hq
      go_wp2
      go_ret2
      exact ⟨rfl, hb⟩
end Go.Proofs.YtfaelejeihmgcaaDoor.Lgx
end
