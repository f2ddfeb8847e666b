/-
  Texts of mine, and texts that print.sh and pp.py wrote, merged and cut to what is used: Wd5, HandD, Wd6, HandSg, PureP3, PureP4, PureP5, HandSh, HandH, PureA, PureB, PureC, PureSs, HandSi, OpnS, St3, PureDg
-/
import Derived.Test.YtfaelejeihmgcaaDoorProg
import Derived.Below
import Derived.Shelf.Unicode.DecodeSlow
import Derived.Lib.ItoaMem
import Derived.Lib.LaidTab
import Derived.Test.YtfaelejeihmgcaaDoorCards
import Derived.Test.YtfaelejeihmgcaaDoorTie
import Derived.Lib.LaidU8T
import Derived.PinnedBridge
import Derived.LaidMore
import Derived.Lay
import Derived.ProofKit
import Derived.OpenShut
import Derived.SevenTiedAt
import Derived.Stop.Joined
import Derived.Deep.DeepHandedRow
import Derived.Deep.Draws
import Derived.Deep.AppendLies
import Derived.Maps.AppendAt
import Derived.OwnWalk
import Derived.Laws.BytesArg
import Derived.Laws.MakeOwn
import Derived.Laws.OwnMore
import Derived.Deep.OwnRows
import Derived.Tactics
import Derived.Lib.ConvBytes
import Derived.Laws.Slices
import Derived.WalkKit
import Derived.KernelRfl
import Derived.RowKit3
import Derived.Deep.LoopGhost
import Derived.Deep.QuietTactic
import Derived.BigQuiet
import Derived.WideLaws
import Derived.Deep.DeepCutAuto
import Derived.Deep.CutBlock
import Derived.Deep.RegionHeld3
import Derived.Laws.Rows
import Derived.Lib.AppendStr
import Derived.ArgAppend
import Derived.Laws.IdiomCopy
import Derived.RowKit
import Derived.Test.YtfaelejeihmgcaaDoorRows
import Derived.ChangeArms
import Derived.DataReads
import Derived.DataElems
import Derived.Shelf.Strings.Builder1
import Derived.Shelf.Strings.Builder2
import Derived.Shelf.Strings.OnBuilder
import Derived.Shelf.Strings.BuilderF
import Derived.Shelf.Strings.BuilderK
import Derived.Shelf.Strings.Builder2Cap
import Derived.Shelf.Strconv.Atoi
import Derived.Shelf.Strconv.Itoa0
import Derived.Shelf.Strconv.Itoa1
import Derived.Shelf.LaysM
import Derived.Shelf.Strconv.Itoa2
import Derived.Shelf.Strconv.Itoa3
import Derived.Shelf.Strconv.AtoiErrFast
import Derived.Shelf.Strconv.ParseIntEmpty
import Derived.Shelf.Strconv.AtoiFail
import Derived.Shelf.Strconv.Clone
import Derived.Shelf.Strconv.SyntaxError
import Derived.Shelf.LaysC
import Derived.Shelf.Strconv.ToError
import Derived.Shelf.Strconv.Lower
import Derived.Shelf.Strconv.ParseUint10
import Derived.Shelf.Strconv.ParseUint10Empty
import Derived.Shelf.Strconv.ParseUint10Any
import Derived.Shelf.Strconv.ParseInt10
import Derived.Shelf.Strconv.AtoiLong
import Derived.Shelf.Strconv.AtoiInnerAll
import Derived.Shelf.Strconv.RangeError
import Derived.Shelf.Strconv.ToErrorRange
import Derived.Shelf.Strconv.AtoiAll
import Derived.Shelf.Strconv.ErrVarAll
import Derived.Shelf.Strconv.ParseUintEmpty
import Derived.Shelf.Strconv.ParseUint10b64
import Derived.Shelf.Strconv.ParseUint10b32
import Derived.Shelf.Strconv.ParseUint10b16
import Derived.Shelf.Strconv.ParseUint10b8
import Derived.Shelf.Strings.Prefix
import Derived.Shelf.Unicode.Decode
import Derived.Shelf.Unicode.DecodeAny
import Derived.Lib.AppendIntMem
import Derived.FnData
import Derived.Outline
import Derived.Tactics2
import Derived.OrdersHeld
import Derived.Laws.BitsLemmas
import Derived.Laws.StructEq
import Derived.Lib.AtoiTie
import Derived.Lib.Strings
import Derived.Lib.Slices
import Derived.Lib.Walk
import Derived.Lib.Builder
import Derived.Lib.UnsafeStr
import Derived.Laws.Externs
import Derived.Lib.DecodeNEq
import Derived.Lib.OthersKept
import Derived.Lib.Hide
import Derived.BigCall
import Derived.StillTailTactics
import Derived.BigRegion
import Derived.RegionTactic
import Derived.IntWalk
import Derived.WalkSpells
import Derived.Laws.Pointers
import Derived.Deep.RegionWith
import Derived.Test.YtfaelejeihmgcaaDoorMv0
import Derived.Test.YtfaelejeihmgcaaDoorMv1
import Derived.Test.YtfaelejeihmgcaaDoorMv2

section
namespace Go.Proofs.YtfaelejeihmgcaaDoor.Wd
open Go.RowKit Go.Proofs.YtfaelejeihmgcaaDoorW.PrintWords Go.Proofs.YtfaelejeihmgcaaDoorW.PrintLast Go.Proofs.YtfaelejeihmgcaaDoorW.PrintMore
attribute [local go_sem] max2_int min2_int max_two min_two max_three min_three max_four min_four   -- for this text's walks alone
set_option linter.unusedVariables false
set_option linter.unusedSimpArgs false
mutual
def cachepotref3_quoted.l0 : Nat → ByteArray → List Int → Int → Option (ByteArray × Int × Bool)
  | 0, _, _, _ => none
  | k + 1, x0, x7, x8 => if x8 < (x0.size : Int) then ((cachepotref3_plain.f k x0 x8).bind fun t129 => (if 0 ≤ x8 then (if (bt x0 x8) = 34 then (some (strOfNums x7, wrap64 (x8 + 1), true)) else (if (bt x0 x8) = 32 then (if x8 ≤ (wrap64 (x8 + 1)) then (if (wrap64 (x8 + 1)) ≤ (x0.size : Int) then (if x7.length + (x0.extract (x8 : Int).toNat ((wrap64 (x8 + 1)) : Int).toNat).size < 140737488355328 then (cachepotref3_quoted.l0 k x0 (x7 ++ bytesOf (x0.extract (x8 : Int).toNat ((wrap64 (x8 + 1)) : Int).toNat)) (wrap64 (x8 + 1))) else (none)) else (none)) else (none)) else (if (bt x0 x8) = 92 then (if (wrap64 (x8 + 1)) < (x0.size : Int) then (if 0 ≤ (wrap64 (x8 + 1)) then (if (bt x0 (wrap64 (x8 + 1))) = 34 then (cachepotref3_quoted.j1 k x0 x7 x8 t129 true) else (cachepotref3_quoted.j1 k x0 x7 x8 t129 ((bt x0 (wrap64 (x8 + 1))) == 92))) else (none)) else (cachepotref3_quoted.j1 k x0 x7 x8 t129 false)) else (cachepotref3_quoted.j1 k x0 x7 x8 t129 false)))) else (none))) else (some ((⟨#[]⟩ : ByteArray), 0, false))
def cachepotref3_quoted.j1 : Nat → ByteArray → List Int → Int → Int → Bool → Option (ByteArray × Int × Bool)
  | 0, _, _, _, _, _ => none
  | k + 1, x0, x7, x8, x9, x33 => if x33 = true then (if 0 ≤ (wrap64 (x8 + 1)) then (if (wrap64 (x8 + 1)) < (x0.size : Int) then (if x7.length < 140737488355328 then (cachepotref3_quoted.l0 k x0 (x7 ++ [bt x0 (wrap64 (x8 + 1))]) (wrap64 (x8 + 2))) else (none)) else (none)) else (none)) else (if 0 ≤ x8 then (if x8 < (x0.size : Int) then (if (bt x0 x8) = 92 then (if (wrap64 (x8 + 2)) < (x0.size : Int) then (if 0 ≤ (wrap64 (x8 + 1)) then (if (wrap64 (x8 + 1)) < (x0.size : Int) then ((cachepotref3_hex.f k (bt x0 (wrap64 (x8 + 1)))).bind fun t136 => (if t136 ≥ 0 then (if 0 ≤ (wrap64 (x8 + 2)) then ((cachepotref3_hex.f k (bt x0 (wrap64 (x8 + 2)))).bind fun t137 => (cachepotref3_quoted.j2 k x0 x7 x8 x9 (decide (t137 ≥ 0)))) else (none)) else (cachepotref3_quoted.j2 k x0 x7 x8 x9 false))) else (none)) else (none)) else (cachepotref3_quoted.j2 k x0 x7 x8 x9 false)) else (cachepotref3_quoted.j2 k x0 x7 x8 x9 false)) else (none)) else (none))
def cachepotref3_quoted.j2 : Nat → ByteArray → List Int → Int → Int → Bool → Option (ByteArray × Int × Bool)
  | 0, _, _, _, _, _ => none
  | k + 1, x0, x7, x8, x9, x68 => if x68 = true then (if 0 ≤ (wrap64 (x8 + 1)) then (if (wrap64 (x8 + 1)) < (x0.size : Int) then ((cachepotref3_hex.f k (bt x0 (wrap64 (x8 + 1)))).bind fun t138 => (if 0 ≤ (wrap64 (x8 + 2)) then (if (wrap64 (x8 + 2)) < (x0.size : Int) then ((cachepotref3_hex.f k (bt x0 (wrap64 (x8 + 2)))).bind fun t139 => (if x7.length < 140737488355328 then (cachepotref3_quoted.l0 k x0 (x7 ++ [(wrap64 ((wrap64 (16 * t138)) + t139)) % 256]) (wrap64 (x8 + 3))) else (none))) else (none)) else (none))) else (none)) else (none)) else (if x9 = 0 then (some ((⟨#[]⟩ : ByteArray), 0, false)) else (if 0 ≤ x8 then (if x8 ≤ (wrap64 (x8 + x9)) then (if (wrap64 (x8 + x9)) ≤ (x0.size : Int) then (if x7.length + (x0.extract (x8 : Int).toNat ((wrap64 (x8 + x9)) : Int).toNat).size < 140737488355328 then (cachepotref3_quoted.l0 k x0 (x7 ++ bytesOf (x0.extract (x8 : Int).toNat ((wrap64 (x8 + x9)) : Int).toNat)) (wrap64 (x8 + x9))) else (none)) else (none)) else (none)) else (none)))
end
def cachepotref3_quoted.f (k : Nat) (a0 : ByteArray) (a1 : Int) : Option (ByteArray × Int × Bool) := cachepotref3_quoted.l0 k a0 ([] : List Int) (wrap64 (a1 + 1))
def cachepotref3_quoted.T13 : Bool × List (List Nat × List Nat) := (true, [([], []), ([], []), ([], []), ([2], [2]), ([1, 3], [1, 3]), ([4], [4]), ([5], [5]), ([], []), ([], []), ([8], [8]), ([7, 9], [7, 9]), ([10, 5], [10]), ([6, 11], [6, 11]), ([12], [12]), ([13], [13]), ([0, 14, 11], [0, 14]), ([15, 15, 0, 1, 2, 3, 4, 5, 6, 7, 8, 9, 10, 11, 12, 13, 14, 15], [0, 15])])
def cachepotref3_quoted.B13 : List Nat := [0, 0, 0, 4, 14, 30, 62, 0, 0, 256, 896, 1982, 4094, 8190, 16382, 32767, 65535]
theorem cachepotref3_quoted.tab13 : rtab .any (opsOf Tryd.f53 13) = cachepotref3_quoted.T13 := by kernel_rfl
theorem cachepotref3_quoted.bits13 : waitsOk cachepotref3_quoted.T13.2 cachepotref3_quoted.B13 = true := by kernel_rfl
set_option maxHeartbeats 8000000 in
set_option maxRecDepth 100000 in
theorem cachepotref3_quoted.calls (k : Nat) (a0 : ByteArray) (a1 : Int) (r1 : ByteArray) (r2 : Int) (r3 : Bool) (w : World) (h : cachepotref3_quoted.f k a0 a1 = some (r1, r2, r3)) :
    Calls Tryd.prog 53 #[.string a0, .int .i64 a1] w fun e w' => e = .returned (.tuple #[.string r1, .int .i64 r2, .bool r3]) ∧ Below w.heap.size w w' := by
  have HB := Aside0.mk (Below.refl w.heap.size w)
  have H : (cachepotref3_quoted.l0 k a0 ([] : List Int) (wrap64 (a1 + 1))) = some (r1, r2, r3) := h
  clear h
  have H' := Aside0.mk H
  clear H
  go_enter Tryd.func53, Tryd.ntmps53
  go_wp2
  go_loopg [7, 8] k (fun kq v7 v8 w' => ∃ (x7_1 : List Int) (x8_1 : Int), v8 = .int .i64 x8_1 ∧ Aside0 (cachepotref3_quoted.l0 kq a0 x7_1 x8_1 = some (r1, r2, r3)) ∧ Aside0 (kq ≤ k) ∧ Aside0 (Kd.R (Kd.int .u8) 5 w' w.heap.size (fun _ => True) v7 x7_1) ∧ Aside0 (Below w.heap.size w w'))
  case atStart => exact ⟨(([] : List Int)), (wrap64 (a1 + 1)), (by first | rfl | (simp; done) | (simp [*]; done)), H', ⟨Nat.le_refl _⟩, ⟨by first | exact Kd.R_nil _ _ _ _ _ | exact Kd.N_nil _ _ _ _ _ | exact Kd.V_nil _ _ _ _ _ | exact Kd.Q_nil _ _ _ _ _ | exact Kd.S_nil _ _ _ _ _⟩, ⟨by repeat (first | (with_reducible first | exact HB.out | apply below_alloc | apply pw_below_drewN | apply below_drew1) | exact HB.out)⟩⟩
  case round =>
    clear H'
    try clear p2
    obtain ⟨x7_1, x8_1, rfl, HA, HK1, HO_7, HB⟩ := hrel
    cases gk with
    | zero => exact absurd HA.out (by simp [cachepotref3_quoted.l0])
    | succ k1 =>
      have H := HA.out
      clear HA
      simp only [cachepotref3_quoted.l0] at H
      by_cases c3 : x8_1 < (a0.size : Int)
      · rw [if_pos c3] at H
        have c3b0 : decide (x8_1 < (a0.size : Int)) = true := decide_eq_true c3
        clear c3
        replace H := Option.bind_eq_some_iff.mp H
        obtain ⟨t129, A40, H⟩ := H
        replace H : (if 0 ≤ x8_1 then (if (bt a0 x8_1) = 34 then (some (strOfNums x7_1, wrap64 (x8_1 + 1), true)) else (if (bt a0 x8_1) = 32 then (if x8_1 ≤ (wrap64 (x8_1 + 1)) then (if (wrap64 (x8_1 + 1)) ≤ (a0.size : Int) then (if x7_1.length + (a0.extract (x8_1 : Int).toNat ((wrap64 (x8_1 + 1)) : Int).toNat).size < 140737488355328 then (cachepotref3_quoted.l0 k1 a0 (x7_1 ++ bytesOf (a0.extract (x8_1 : Int).toNat ((wrap64 (x8_1 + 1)) : Int).toNat)) (wrap64 (x8_1 + 1))) else (none)) else (none)) else (none)) else (if (bt a0 x8_1) = 92 then (if (wrap64 (x8_1 + 1)) < (a0.size : Int) then (if 0 ≤ (wrap64 (x8_1 + 1)) then (if (bt a0 (wrap64 (x8_1 + 1))) = 34 then (cachepotref3_quoted.j1 k1 a0 x7_1 x8_1 t129 true) else (cachepotref3_quoted.j1 k1 a0 x7_1 x8_1 t129 ((bt a0 (wrap64 (x8_1 + 1))) == 92))) else (none)) else (cachepotref3_quoted.j1 k1 a0 x7_1 x8_1 t129 false)) else (cachepotref3_quoted.j1 k1 a0 x7_1 x8_1 t129 false)))) else (none)) = some (r1, r2, r3) := H
        have A4 := Aside0.mk A40
        clear A40
        by_cases c5 : 0 ≤ x8_1
        · rw [if_pos c5] at H
          have c5b0 : decide (0 ≤ x8_1) = true := decide_eq_true c5
          clear c5
          by_cases c7 : (bt a0 x8_1) = 34
          · rw [if_pos c7] at H
            have c7b0 : ((bt a0 x8_1) == 34) = true := beq_iff_eq.mpr c7
            have c7b1 : ((bt a0 x8_1) != 34) = false := bne_eq_false_iff_eq.mpr c7
            clear c7
            simp only [Option.some.injEq, Prod.mk.injEq] at H
            obtain ⟨rfl, rfl, rfl⟩ := H
            go_wp2_with (first | ((with_reducible refine gate_callee (f := 54) rfl ?_); refine goesL_ (some 18) rfl rfl Tryd.func54 (by kernel_rfl) rfl #[.string a0, .int .i64 x8_1] rfl (by (try simp only [List.map_toArray, List.map_cons, List.map_nil]); first | done | rfl | (simp only [List.length_drop, List.length_take]; rfl)) ?_; (with_reducible refine (cachepotref3_plain.calls k1 a0 x8_1 t129 _ A4.out).mono ?_); rintro e w' ⟨rfl, ⟨nd, rfl⟩⟩; refine ⟨_, rfl, ?_⟩; have p6 : 0 ≤ (x8_1 : Int) := of_decide_eq_true (by first | (with_reducible assumption) | assumption); have q6 : x8_1 < (a0.size : Int) := of_decide_eq_true (by first | (with_reducible assumption) | assumption); have hx6 := bt_at a0 x8_1; replace p6 := eq_true p6; replace q6 := eq_true q6; have hcv8 := own_string (P := Tryd.prog) Tryd.underlying32 Tryd.underlying5 Tryd.underlying9 (Kd.own_of_R (Kd.R_drewN HO_7.out nd))))
            go_ret3
            exact ⟨by first | rfl | (simp [errW_none, errW_some] <;> rfl) | (simp [*, errW_none, errW_some] <;> rfl), by repeat (first | (with_reducible first | exact HB.out | apply below_alloc | apply pw_below_drewN | apply below_drew1) | exact HB.out)⟩
          · rw [if_neg c7] at H
            have c7b0 : ((bt a0 x8_1) == 34) = false := beq_eq_false_iff_ne.mpr c7
            have c7b1 : ((bt a0 x8_1) != 34) = true := bne_iff_ne.mpr c7
            by_cases c10 : (bt a0 x8_1) = 32
            · rw [if_pos c10] at H
              have c10b0 : ((bt a0 x8_1) == 32) = true := beq_iff_eq.mpr c10
              have c10b1 : ((bt a0 x8_1) != 32) = false := bne_eq_false_iff_eq.mpr c10
              clear c10
              have c11b0 := eq_true (of_decide_eq_true (by first | (with_reducible assumption) | assumption) : 0 ≤ x8_1)
              by_cases c12 : x8_1 ≤ (wrap64 (x8_1 + 1))
              · rw [if_pos c12] at H
                have c12b0 := eq_true c12
                have c12b1 : decide (x8_1 ≤ (wrap64 (x8_1 + 1))) = true := decide_eq_true c12
                by_cases c13 : (wrap64 (x8_1 + 1)) ≤ (a0.size : Int)
                · rw [if_pos c13] at H
                  have c13b0 := eq_true c13
                  have c13b1 : decide ((wrap64 (x8_1 + 1)) ≤ (a0.size : Int)) = true := decide_eq_true c13
                  by_cases c14 : x7_1.length + (a0.extract (x8_1 : Int).toNat ((wrap64 (x8_1 + 1)) : Int).toNat).size < 140737488355328
                  · rw [if_pos c14] at H
                    have LMc14 := Aside0.mk c14
                    clear c14
                    obtain ⟨y130, hy130⟩ : ∃ y_ : List Int, y_ = (x7_1 ++ bytesOf (a0.extract (x8_1 : Int).toNat ((wrap64 (x8_1 + 1)) : Int).toNat)) := ⟨_, rfl⟩
                    replace H : (cachepotref3_quoted.l0 k1 a0 y130 (wrap64 (x8_1 + 1))) = some (r1, r2, r3) := by first | (rw [hy130]; with_reducible exact H) | (have H2_ := (Option.bind_some _ _).symm.trans H; rw [hy130]; with_reducible exact H2_) | (have H2_ := (Option.bind_some _ _).symm.trans H; with_reducible exact H2_) | with_reducible exact H | (rw [hy130]; exact H) | exact H
                    have Ny130 := Aside0.mk hy130
                    clear hy130
                    have H' := Aside0.mk H
                    clear H
                    go_wp2_with (first | ((with_reducible refine gate_callee (f := 54) rfl ?_); refine goesL_ (some 18) rfl rfl Tryd.func54 (by kernel_rfl) rfl #[.string a0, .int .i64 x8_1] rfl (by (try simp only [List.map_toArray, List.map_cons, List.map_nil]); first | done | rfl | (simp only [List.length_drop, List.length_take]; rfl)) ?_; (with_reducible refine (cachepotref3_plain.calls k1 a0 x8_1 t129 _ A4.out).mono ?_); rintro e w' ⟨rfl, ⟨nd, rfl⟩⟩; refine ⟨_, rfl, ?_⟩; have p6 : 0 ≤ (x8_1 : Int) := of_decide_eq_true (by first | (with_reducible assumption) | assumption); have q6 : x8_1 < (a0.size : Int) := of_decide_eq_true (by first | (with_reducible assumption) | assumption); have hx6 := bt_at a0 x8_1; replace p6 := eq_true p6; replace q6 := eq_true q6; have p9 : 0 ≤ (x8_1 : Int) := of_decide_eq_true (by first | (with_reducible assumption) | assumption); have q9 : x8_1 < (a0.size : Int) := of_decide_eq_true (by first | (with_reducible assumption) | assumption); have hx9 := bt_at a0 x8_1; replace p9 := eq_true p9; replace q9 := eq_true q9) | (at_builtin; refine print_append_str (w0 := w) w.heap.size rfl (.tmp 117) _ 32 9 5 rfl Tryd.underlying32 Tryd.underlying9 info5 u7 x7_1 (a0.extract (x8_1 : Int).toNat ((wrap64 (x8_1 + 1)) : Int).toNat) rfl rfl ?aO ?aB ?aS ?aL ?_; (case aB => exact (by repeat (first | (with_reducible first | exact HB.out | apply below_alloc | apply pw_below_drewN | apply below_drew1) | exact HB.out))); (case aO => exact (Kd.own_of_R (by (with_reducible repeat (first | apply Kd.R_alloc | apply Kd.R_drewN | apply Kd.R_drew)); exact HO_7.out))); (case aS => exact (below_size (by repeat (first | (with_reducible first | exact HB.out | apply below_alloc | apply pw_below_drewN | apply below_drew1) | exact HB.out)))); (case aL => have := LMc14.out; omega); intro v131 w15 ho0 hb hg; have ho := Kd.R_of_own (h1 := fun _ => rfl) (ok := fun _ => True) ho0 (fun _ _ => trivial); clear ho0; have hat := True.intro; rw [← Ny130.out] at ho; change Kd.R (Kd.int .u8) 5 w15 w.heap.size (fun _ => True) v131 y130 at ho; have n0_ := Aside0.mk (hb); have n1_ := Aside0.mk (ho); clear HB; clear HO_7; have HB := n0_; have HO132 := n1_; clear n0_ n1_; clear ho hb hg hat))
                    go_roundg k1
                    case measure => have := HK1.out; omega
                    case rel => exact ⟨(y130), (wrap64 (x8_1 + 1)), (by first | rfl | (simp; done) | (simp [*]; done)), H', ⟨by have := HK1.out; omega⟩, ⟨by (with_reducible repeat (first | apply Kd.R_alloc | apply Kd.R_drewN | apply Kd.R_drew)); exact HO132.out⟩, ⟨by repeat (first | (with_reducible first | exact HB.out | apply below_alloc | apply pw_below_drewN | apply below_drew1) | exact HB.out)⟩⟩
                  · rw [if_neg c14] at H
                    exact absurd H (by simp)
                · rw [if_neg c13] at H
                  exact absurd H (by simp)
              · rw [if_neg c12] at H
                exact absurd H (by simp)
            · rw [if_neg c10] at H
              have c10b0 : ((bt a0 x8_1) == 32) = false := beq_eq_false_iff_ne.mpr c10
              have c10b1 : ((bt a0 x8_1) != 32) = true := bne_iff_ne.mpr c10
              have HC16 := Aside0.mk H
              clear H
              go_upto_region 9 with (first | ((with_reducible refine gate_callee (f := 54) rfl ?_); refine goesL_ (some 18) rfl rfl Tryd.func54 (by kernel_rfl) rfl #[.string a0, .int .i64 x8_1] rfl (by (try simp only [List.map_toArray, List.map_cons, List.map_nil]); first | done | rfl | (simp only [List.length_drop, List.length_take]; rfl)) ?_; (with_reducible refine (cachepotref3_plain.calls k1 a0 x8_1 t129 _ A4.out).mono ?_); rintro e w' ⟨rfl, ⟨nd, rfl⟩⟩; refine ⟨_, rfl, ?_⟩; have p6 : 0 ≤ (x8_1 : Int) := of_decide_eq_true (by first | (with_reducible assumption) | assumption); have q6 : x8_1 < (a0.size : Int) := of_decide_eq_true (by first | (with_reducible assumption) | assumption); have hx6 := bt_at a0 x8_1; replace p6 := eq_true p6; replace q6 := eq_true q6; have p9 : 0 ≤ (x8_1 : Int) := of_decide_eq_true (by first | (with_reducible assumption) | assumption); have q9 : x8_1 < (a0.size : Int) := of_decide_eq_true (by first | (with_reducible assumption) | assumption); have hx9 := bt_at a0 x8_1; replace p9 := eq_true p9; replace q9 := eq_true q9))
              (try simp only [Act.put, List.setIfInBounds_toArray, List.set_cons_zero, List.set_cons_succ])
              go_cut [33] (fun v33 wc => ∃ (kq : Nat) (x33_15 : Bool), v33 = .bool x33_15 ∧ Aside0 (cachepotref3_quoted.j1 kq a0 x7_1 x8_1 t129 x33_15 = some (r1, r2, r3)) ∧ Aside0 (kq ≤ k1) ∧ Aside0 (Kd.R (Kd.int .u8) 5 wc w.heap.size (fun _ => True) u7 x7_1) ∧ Aside0 (Below w.heap.size w wc))
              case first =>
                have H := HC16.out
                clear HC16
                by_cases c18 : (bt a0 x8_1) = 92
                · rw [if_pos c18] at H
                  have c18b0 : ((bt a0 x8_1) == 92) = true := beq_iff_eq.mpr c18
                  have c18b1 : ((bt a0 x8_1) != 92) = false := bne_eq_false_iff_eq.mpr c18
                  clear c18
                  (first | rw [c18b0] | (simp only [i64_w, i32_w]; rw [c18b0]) | skip)
                  by_cases c19 : (wrap64 (x8_1 + 1)) < (a0.size : Int)
                  · rw [if_pos c19] at H
                    have c19b0 : decide ((wrap64 (x8_1 + 1)) < (a0.size : Int)) = true := decide_eq_true c19
                    clear c19
                    obtain ⟨ji20, hji20⟩ : ∃ j_ : Int, (wrap64 (x8_1 + 1)) = j_ := ⟨_, rfl⟩
                    replace H : (if 0 ≤ (ji20) then (if (bt a0 (ji20)) = 34 then (cachepotref3_quoted.j1 k1 a0 x7_1 x8_1 t129 true) else (cachepotref3_quoted.j1 k1 a0 x7_1 x8_1 t129 ((bt a0 (ji20)) == 92))) else (none)) = some (r1, r2, r3) := by first | (rw [hji20] at H; exact H) | (simp only [hji20] at H ⊢; exact H)
                    (try rw [hji20] at c19b0)
                    have hji20w : (IntKind.i64.wrap (x8_1 + 1)) = ji20 := (i64_w _).trans hji20
                    by_cases c21 : 0 ≤ (ji20)
                    · rw [if_pos c21] at H
                      have c21b0 : decide (0 ≤ (ji20)) = true := decide_eq_true c21
                      clear c21
                      by_cases c23 : (bt a0 (ji20)) = 34
                      · rw [if_pos c23] at H
                        have c23b0 : ((bt a0 (ji20)) == 34) = true := beq_iff_eq.mpr c23
                        have c23b1 : ((bt a0 (ji20)) != 34) = false := bne_eq_false_iff_eq.mpr c23
                        clear c23
                        have H' := Aside0.mk H
                        clear H
                        have p17 : 0 ≤ (x8_1 : Int) := of_decide_eq_true (by first | (with_reducible assumption) | assumption)
                        have q17 : x8_1 < (a0.size : Int) := of_decide_eq_true (by first | (with_reducible assumption) | assumption)
                        have hx17 := bt_at a0 x8_1
                        replace p17 := eq_true p17
                        replace q17 := eq_true q17
                        have p22 : 0 ≤ ((ji20) : Int) := of_decide_eq_true (by first | (with_reducible assumption) | assumption)
                        have q22 : (ji20) < (a0.size : Int) := of_decide_eq_true (by first | (with_reducible assumption) | assumption)
                        have hx22 := bt_at a0 (ji20)
                        replace p22 := eq_true p22
                        replace q22 := eq_true q22
                        go_wp2
                        go_meet
                        case rel => exact ⟨_, (true), (by first | rfl | (simp; done) | (simp [*]; done)), H', ⟨by have := HK1.out; first | omega | exact Nat.le_refl _⟩, ⟨by (with_reducible repeat (first | apply Kd.R_alloc | apply Kd.R_drewN | apply Kd.R_drew)); exact HO_7.out⟩, ⟨by repeat (first | (with_reducible first | exact HB.out | apply below_alloc | apply pw_below_drewN | apply below_drew1) | exact HB.out)⟩⟩
                      · rw [if_neg c23] at H
                        have c23b0 : ((bt a0 (ji20)) == 34) = false := beq_eq_false_iff_ne.mpr c23
                        have c23b1 : ((bt a0 (ji20)) != 34) = true := bne_iff_ne.mpr c23
                        have H' := Aside0.mk H
                        clear H
                        have p17 : 0 ≤ (x8_1 : Int) := of_decide_eq_true (by first | (with_reducible assumption) | assumption)
                        have q17 : x8_1 < (a0.size : Int) := of_decide_eq_true (by first | (with_reducible assumption) | assumption)
                        have hx17 := bt_at a0 x8_1
                        replace p17 := eq_true p17
                        replace q17 := eq_true q17
                        have p22 : 0 ≤ ((ji20) : Int) := of_decide_eq_true (by first | (with_reducible assumption) | assumption)
                        have q22 : (ji20) < (a0.size : Int) := of_decide_eq_true (by first | (with_reducible assumption) | assumption)
                        have hx22 := bt_at a0 (ji20)
                        replace p22 := eq_true p22
                        replace q22 := eq_true q22
                        have p24 : 0 ≤ ((ji20) : Int) := of_decide_eq_true (by first | (with_reducible assumption) | assumption)
                        have q24 : (ji20) < (a0.size : Int) := of_decide_eq_true (by first | (with_reducible assumption) | assumption)
                        have hx24 := bt_at a0 (ji20)
                        replace p24 := eq_true p24
                        replace q24 := eq_true q24
                        go_wp2
                        go_meet
                        case rel => exact ⟨_, (((bt a0 (ji20)) == 92)), (by first | rfl | (simp; done) | (simp only [← hji20] <;> (first | rfl | simp)) | (simp [*]; done)), H', ⟨by have := HK1.out; first | omega | exact Nat.le_refl _⟩, ⟨by (with_reducible repeat (first | apply Kd.R_alloc | apply Kd.R_drewN | apply Kd.R_drew)); exact HO_7.out⟩, ⟨by repeat (first | (with_reducible first | exact HB.out | apply below_alloc | apply pw_below_drewN | apply below_drew1) | exact HB.out)⟩⟩
                    · rw [if_neg c21] at H
                      exact absurd H (by simp)
                  · rw [if_neg c19] at H
                    have c19b0 : decide ((wrap64 (x8_1 + 1)) < (a0.size : Int)) = false := decide_eq_false c19
                    clear c19
                    have H' := Aside0.mk H
                    clear H
                    have p17 : 0 ≤ (x8_1 : Int) := of_decide_eq_true (by first | (with_reducible assumption) | assumption)
                    have q17 : x8_1 < (a0.size : Int) := of_decide_eq_true (by first | (with_reducible assumption) | assumption)
                    have hx17 := bt_at a0 x8_1
                    replace p17 := eq_true p17
                    replace q17 := eq_true q17
                    go_wp2
                    go_meet
                    case rel => exact ⟨_, (false), (by first | rfl | (simp; done) | (simp [*]; done)), H', ⟨by have := HK1.out; first | omega | exact Nat.le_refl _⟩, ⟨by (with_reducible repeat (first | apply Kd.R_alloc | apply Kd.R_drewN | apply Kd.R_drew)); exact HO_7.out⟩, ⟨by repeat (first | (with_reducible first | exact HB.out | apply below_alloc | apply pw_below_drewN | apply below_drew1) | exact HB.out)⟩⟩
                · rw [if_neg c18] at H
                  have c18b0 : ((bt a0 x8_1) == 92) = false := beq_eq_false_iff_ne.mpr c18
                  have c18b1 : ((bt a0 x8_1) != 92) = true := bne_iff_ne.mpr c18
                  (first | rw [c18b0] | (simp only [i64_w, i32_w]; rw [c18b0]) | skip)
                  have H' := Aside0.mk H
                  clear H
                  have p17 : 0 ≤ (x8_1 : Int) := of_decide_eq_true (by first | (with_reducible assumption) | assumption)
                  have q17 : x8_1 < (a0.size : Int) := of_decide_eq_true (by first | (with_reducible assumption) | assumption)
                  have hx17 := bt_at a0 x8_1
                  replace p17 := eq_true p17
                  replace q17 := eq_true q17
                  go_wp2
                  go_meet
                  case rel => exact ⟨_, (false), (by first | rfl | (simp; done) | (simp [*]; done)), H', ⟨by have := HK1.out; first | omega | exact Nat.le_refl _⟩, ⟨by (with_reducible repeat (first | apply Kd.R_alloc | apply Kd.R_drewN | apply Kd.R_drew)); exact HO_7.out⟩, ⟨by repeat (first | (with_reducible first | exact HB.out | apply below_alloc | apply pw_below_drewN | apply below_drew1) | exact HB.out)⟩⟩
              case rest =>
                clear HC16
                try clear c1
                try clear p1
                try clear q1
                try clear hx1
                try clear c2
                try clear p2
                try clear q2
                try clear hx2
                try clear c3
                try clear c3b0
                try clear c5
                try clear c5b0
                try clear p6
                try clear q6
                try clear hx6
                try clear c7
                try clear c7b0
                try clear c7b1
                try clear hcv8
                try clear p9
                try clear q9
                try clear hx9
                try clear c10
                try clear c10b0
                try clear c10b1
                try clear c11
                try clear c11b0
                try clear c12
                try clear c12b0
                try clear c12b1
                try clear c13
                try clear c13b0
                try clear c13b1
                try clear c14
                try clear p17
                try clear q17
                try clear hx17
                try clear c18
                try clear c18b0
                try clear c18b1
                try clear c19
                try clear c19b0
                try clear c21
                try clear c21b0
                try clear p22
                try clear q22
                try clear hx22
                try clear c23
                try clear c23b0
                try clear c23b1
                try clear p24
                try clear q24
                try clear hx24
                try clear p17
                try clear p2
                try clear p22
                try clear p24
                try clear p6
                try clear p9
                try clear q17
                try clear q22
                try clear q24
                try clear q6
                try clear q9
                obtain ⟨kq, x33_15, rfl, HA, HJ15, HO_7, HB⟩ := hcut
                cases kq with
                | zero => exact absurd HA.out (by simp [cachepotref3_quoted.j1])
                | succ kj15 =>
                  have H := HA.out
                  clear HA
                  simp only [cachepotref3_quoted.j1] at H
                  by_cases c25 : x33_15 = true
                  · subst c25
                    have H1 : (if 0 ≤ (wrap64 (x8_1 + 1)) then (if (wrap64 (x8_1 + 1)) < (a0.size : Int) then (if x7_1.length < 140737488355328 then (cachepotref3_quoted.l0 kj15 a0 (x7_1 ++ [bt a0 (wrap64 (x8_1 + 1))]) (wrap64 (x8_1 + 2))) else (none)) else (none)) else (none)) = some (r1, r2, r3) := by rw [if_pos rfl] at H; exact H
                    clear H
                    have H := H1
                    clear H1
                    obtain ⟨ji26, hji26⟩ : ∃ j_ : Int, (wrap64 (x8_1 + 1)) = j_ := ⟨_, rfl⟩
                    replace H : (if 0 ≤ (ji26) then (if (ji26) < (a0.size : Int) then (if x7_1.length < 140737488355328 then (cachepotref3_quoted.l0 kj15 a0 (x7_1 ++ [bt a0 (ji26)]) (wrap64 (x8_1 + 2))) else (none)) else (none)) else (none)) = some (r1, r2, r3) := by first | (rw [hji26] at H; exact H) | (simp only [hji26] at H ⊢; exact H)
                    have hji26w : (IntKind.i64.wrap (x8_1 + 1)) = ji26 := (i64_w _).trans hji26
                    by_cases c27 : 0 ≤ (ji26)
                    · rw [if_pos c27] at H
                      have c27b0 : decide (0 ≤ (ji26)) = true := decide_eq_true c27
                      clear c27
                      by_cases c28 : (ji26) < (a0.size : Int)
                      · rw [if_pos c28] at H
                        have c28b0 : decide ((ji26) < (a0.size : Int)) = true := decide_eq_true c28
                        clear c28
                        by_cases c30 : x7_1.length < 140737488355328
                        · rw [if_pos c30] at H
                          have LMc30 := Aside0.mk c30
                          clear c30
                          obtain ⟨y133, hy133⟩ : ∃ y_ : List Int, y_ = (x7_1 ++ [bt a0 (ji26)]) := ⟨_, rfl⟩
                          replace H : (cachepotref3_quoted.l0 kj15 a0 y133 (wrap64 (x8_1 + 2))) = some (r1, r2, r3) := by first | (rw [hy133]; with_reducible exact H) | (have H2_ := (Option.bind_some _ _).symm.trans H; rw [hy133]; with_reducible exact H2_) | (have H2_ := (Option.bind_some _ _).symm.trans H; with_reducible exact H2_) | with_reducible exact H | (rw [hy133]; exact H) | exact H
                          have Ny133 := Aside0.mk hy133
                          clear hy133
                          have H' := Aside0.mk H
                          clear H
                          have p29 : 0 ≤ ((ji26) : Int) := of_decide_eq_true (by first | (with_reducible assumption) | assumption)
                          have q29 : (ji26) < (a0.size : Int) := of_decide_eq_true (by first | (with_reducible assumption) | assumption)
                          have hx29 := bt_at a0 (ji26)
                          replace p29 := eq_true p29
                          replace q29 := eq_true q29
                          go_wp2_with (first | ((with_reducible refine gate_builtin (b := .append) (xs := #[.tmp 59, .tmp 64]) rfl ?_); (try (refine gate_guard (by rfl) ?_; dsimp only)); at_builtin; refine Kd.R_append (Kd.int .u8) (w0 := w) w.heap.size rfl (.tmp 59) (.tmp 64) 32 5 (.int .u8 0) 1 rfl Tryd.underlying32 info5 rfl (by decide) (by omega) u7 x7_1 (bt a0 (ji26)) [.int .u8 (bt a0 (ji26))] (fun _ => True) (fun _ => False) rfl rfl ?aP (fun _ hk => hk.elim) ?aF ?aO ?aB ?aS ?aL ?_; (case aP => exact rfl); (case aB => exact (by repeat (first | (with_reducible first | exact HB.out | apply below_alloc | apply pw_below_drewN | apply below_drew1) | exact HB.out))); (case aF => exact (fun _ _ => trivial)); (case aO => exact (by (with_reducible repeat (first | apply Kd.R_alloc | apply Kd.R_drewN | apply Kd.R_drew)); exact HO_7.out)); (case aS => exact (below_size (by repeat (first | (with_reducible first | exact HB.out | apply below_alloc | apply pw_below_drewN | apply below_drew1) | exact HB.out)))); (case aL => have := LMc30.out; omega); intro v134 w31 ho hb hg hat; rw [← Ny133.out] at ho; have n0_ := Aside0.mk (hb); have n1_ := Aside0.mk (ho); clear HB; clear HO_7; have HB := n0_; have HO135 := n1_; clear n0_ n1_; clear ho hb hg hat))
                          go_roundg kj15
                          case measure => have := HK1.out; have := HJ15.out; omega
                          case rel => exact ⟨(y133), (wrap64 (x8_1 + 2)), (by first | rfl | (simp; done) | (simp [*]; done)), H', ⟨by have := HK1.out; have := HJ15.out; omega⟩, ⟨by (with_reducible repeat (first | apply Kd.R_alloc | apply Kd.R_drewN | apply Kd.R_drew)); exact HO135.out⟩, ⟨by repeat (first | (with_reducible first | exact HB.out | apply below_alloc | apply pw_below_drewN | apply below_drew1) | exact HB.out)⟩⟩
                        · rw [if_neg c30] at H
                          exact absurd H (by simp)
                      · rw [if_neg c28] at H
                        exact absurd H (by simp)
                    · rw [if_neg c27] at H
                      exact absurd H (by simp)
                  · replace c25 := Bool.eq_false_iff.mpr c25
                    subst c25
                    have H1 : (if 0 ≤ x8_1 then (if x8_1 < (a0.size : Int) then (if (bt a0 x8_1) = 92 then (if (wrap64 (x8_1 + 2)) < (a0.size : Int) then (if 0 ≤ (wrap64 (x8_1 + 1)) then (if (wrap64 (x8_1 + 1)) < (a0.size : Int) then ((cachepotref3_hex.f kj15 (bt a0 (wrap64 (x8_1 + 1)))).bind fun t136 => (if t136 ≥ 0 then (if 0 ≤ (wrap64 (x8_1 + 2)) then ((cachepotref3_hex.f kj15 (bt a0 (wrap64 (x8_1 + 2)))).bind fun t137 => (cachepotref3_quoted.j2 kj15 a0 x7_1 x8_1 t129 (decide (t137 ≥ 0)))) else (none)) else (cachepotref3_quoted.j2 kj15 a0 x7_1 x8_1 t129 false))) else (none)) else (none)) else (cachepotref3_quoted.j2 kj15 a0 x7_1 x8_1 t129 false)) else (cachepotref3_quoted.j2 kj15 a0 x7_1 x8_1 t129 false)) else (none)) else (none)) = some (r1, r2, r3) := by rw [if_neg (show ¬ (false = true) by decide)] at H; exact H
                    clear H
                    have H := H1
                    clear H1
                    have HC32 := Aside0.mk H
                    clear H
                    go_upto_region 12 with (fail)
                    go_cut [68] (fun v68 wc => ∃ (kq : Nat) (x68_31 : Bool), v68 = .bool x68_31 ∧ Aside0 (cachepotref3_quoted.j2 kq a0 x7_1 x8_1 t129 x68_31 = some (r1, r2, r3)) ∧ Aside0 (kq ≤ kj15) ∧ Aside0 (Kd.R (Kd.int .u8) 5 wc w.heap.size (fun _ => True) u7 x7_1) ∧ Aside0 (Below w.heap.size w wc))
                    case first =>
                      have H := HC32.out
                      clear HC32
                      by_cases c33 : 0 ≤ x8_1
                      · rw [if_pos c33] at H
                        have c33b0 : decide (0 ≤ x8_1) = true := decide_eq_true c33
                        clear c33
                        (first | rw [c33b0] | (simp only [i64_w, i32_w]; rw [c33b0]) | skip)
                        by_cases c34 : x8_1 < (a0.size : Int)
                        · rw [if_pos c34] at H
                          have c34b0 : decide (x8_1 < (a0.size : Int)) = true := decide_eq_true c34
                          clear c34
                          by_cases c36 : (bt a0 x8_1) = 92
                          · rw [if_pos c36] at H
                            have c36b0 : ((bt a0 x8_1) == 92) = true := beq_iff_eq.mpr c36
                            have c36b1 : ((bt a0 x8_1) != 92) = false := bne_eq_false_iff_eq.mpr c36
                            clear c36
                            by_cases c37 : (wrap64 (x8_1 + 2)) < (a0.size : Int)
                            · rw [if_pos c37] at H
                              have c37b0 : decide ((wrap64 (x8_1 + 2)) < (a0.size : Int)) = true := decide_eq_true c37
                              clear c37
                              obtain ⟨ji38, hji38⟩ : ∃ j_ : Int, (wrap64 (x8_1 + 1)) = j_ := ⟨_, rfl⟩
                              replace H : (if 0 ≤ (ji38) then (if (ji38) < (a0.size : Int) then ((cachepotref3_hex.f kj15 (bt a0 (ji38))).bind fun t136 => (if t136 ≥ 0 then (if 0 ≤ (wrap64 (x8_1 + 2)) then ((cachepotref3_hex.f kj15 (bt a0 (wrap64 (x8_1 + 2)))).bind fun t137 => (cachepotref3_quoted.j2 kj15 a0 x7_1 x8_1 t129 (decide (t137 ≥ 0)))) else (none)) else (cachepotref3_quoted.j2 kj15 a0 x7_1 x8_1 t129 false))) else (none)) else (none)) = some (r1, r2, r3) := by first | (rw [hji38] at H; exact H) | (simp only [hji38] at H ⊢; exact H)
                              have hji38w : (IntKind.i64.wrap (x8_1 + 1)) = ji38 := (i64_w _).trans hji38
                              by_cases c39 : 0 ≤ (ji38)
                              · rw [if_pos c39] at H
                                have c39b0 : decide (0 ≤ (ji38)) = true := decide_eq_true c39
                                clear c39
                                by_cases c40 : (ji38) < (a0.size : Int)
                                · rw [if_pos c40] at H
                                  have c40b0 : decide ((ji38) < (a0.size : Int)) = true := decide_eq_true c40
                                  clear c40
                                  replace H := Option.bind_eq_some_iff.mp H
                                  obtain ⟨t136, A420, H⟩ := H
                                  replace H : (if t136 ≥ 0 then (if 0 ≤ (wrap64 (x8_1 + 2)) then ((cachepotref3_hex.f kj15 (bt a0 (wrap64 (x8_1 + 2)))).bind fun t137 => (cachepotref3_quoted.j2 kj15 a0 x7_1 x8_1 t129 (decide (t137 ≥ 0)))) else (none)) else (cachepotref3_quoted.j2 kj15 a0 x7_1 x8_1 t129 false)) = some (r1, r2, r3) := H
                                  have A42 := Aside0.mk A420
                                  clear A420
                                  by_cases c43 : t136 ≥ 0
                                  · rw [if_pos c43] at H
                                    have c43b0 : decide (0 ≤ t136) = true := decide_eq_true c43
                                    clear c43
                                    obtain ⟨ji44, hji44⟩ : ∃ j_ : Int, (wrap64 (x8_1 + 2)) = j_ := ⟨_, rfl⟩
                                    replace H : (if 0 ≤ (ji44) then ((cachepotref3_hex.f kj15 (bt a0 (ji44))).bind fun t137 => (cachepotref3_quoted.j2 kj15 a0 x7_1 x8_1 t129 (decide (t137 ≥ 0)))) else (none)) = some (r1, r2, r3) := by first | (rw [hji44] at H; exact H) | (simp only [hji44] at H ⊢; exact H)
                                    (try rw [hji44] at c37b0)
                                    (try rw [hji44] at A42)
                                    have hji44w : (IntKind.i64.wrap (x8_1 + 2)) = ji44 := (i64_w _).trans hji44
                                    by_cases c45 : 0 ≤ (ji44)
                                    · rw [if_pos c45] at H
                                      have c45b0 : decide (0 ≤ (ji44)) = true := decide_eq_true c45
                                      clear c45
                                      replace H := Option.bind_eq_some_iff.mp H
                                      obtain ⟨t137, A470, H⟩ := H
                                      replace H : (cachepotref3_quoted.j2 kj15 a0 x7_1 x8_1 t129 (decide (t137 ≥ 0))) = some (r1, r2, r3) := H
                                      have A47 := Aside0.mk A470
                                      clear A470
                                      have H' := Aside0.mk H
                                      clear H
                                      have p35 : 0 ≤ (x8_1 : Int) := of_decide_eq_true (by first | (with_reducible assumption) | assumption)
                                      have q35 : x8_1 < (a0.size : Int) := of_decide_eq_true (by first | (with_reducible assumption) | assumption)
                                      have hx35 := bt_at a0 x8_1
                                      replace p35 := eq_true p35
                                      replace q35 := eq_true q35
                                      have p41 : 0 ≤ ((ji38) : Int) := of_decide_eq_true (by first | (with_reducible assumption) | assumption)
                                      have q41 : (ji38) < (a0.size : Int) := of_decide_eq_true (by first | (with_reducible assumption) | assumption)
                                      have hx41 := bt_at a0 (ji38)
                                      replace p41 := eq_true p41
                                      replace q41 := eq_true q41
                                      go_wp2_with (first | (go_at_call 92; (with_reducible refine (cachepotref3_hex.calls kj15 (bt a0 (ji38)) t136 _ A42.out).mono ?_); rintro e w' ⟨rfl, ⟨nd, rfl⟩⟩; have p46 : 0 ≤ ((ji44) : Int) := of_decide_eq_true (by first | (with_reducible assumption) | assumption); have q46 : (ji44) < (a0.size : Int) := of_decide_eq_true (by first | (with_reducible assumption) | assumption); have hx46 := bt_at a0 (ji44); replace p46 := eq_true p46; replace q46 := eq_true q46) | (go_at_call 92; (with_reducible refine (cachepotref3_hex.calls kj15 (bt a0 (ji44)) t137 _ A47.out).mono ?_); rintro e w' ⟨rfl, ⟨nd, rfl⟩⟩))
                                      go_meet
                                      case rel => exact ⟨_, (decide (t137 ≥ 0)), (by first | rfl | (simp; done) | (simp [*]; done)), H', ⟨by have := HK1.out; have := HJ15.out; first | omega | exact Nat.le_refl _⟩, ⟨by (with_reducible repeat (first | apply Kd.R_alloc | apply Kd.R_drewN | apply Kd.R_drew)); exact HO_7.out⟩, ⟨by repeat (first | (with_reducible first | exact HB.out | apply below_alloc | apply pw_below_drewN | apply below_drew1) | exact HB.out)⟩⟩
                                    · rw [if_neg c45] at H
                                      exact absurd H (by simp)
                                  · rw [if_neg c43] at H
                                    have c43b0 : decide (0 ≤ t136) = false := decide_eq_false c43
                                    clear c43
                                    have H' := Aside0.mk H
                                    clear H
                                    have p35 : 0 ≤ (x8_1 : Int) := of_decide_eq_true (by first | (with_reducible assumption) | assumption)
                                    have q35 : x8_1 < (a0.size : Int) := of_decide_eq_true (by first | (with_reducible assumption) | assumption)
                                    have hx35 := bt_at a0 x8_1
                                    replace p35 := eq_true p35
                                    replace q35 := eq_true q35
                                    have p41 : 0 ≤ ((ji38) : Int) := of_decide_eq_true (by first | (with_reducible assumption) | assumption)
                                    have q41 : (ji38) < (a0.size : Int) := of_decide_eq_true (by first | (with_reducible assumption) | assumption)
                                    have hx41 := bt_at a0 (ji38)
                                    replace p41 := eq_true p41
                                    replace q41 := eq_true q41
                                    go_wp2_with (first | (go_at_call 92; (with_reducible refine (cachepotref3_hex.calls kj15 (bt a0 (ji38)) t136 _ A42.out).mono ?_); rintro e w' ⟨rfl, ⟨nd, rfl⟩⟩))
                                    go_meet
                                    case rel => exact ⟨_, (false), (by first | rfl | (simp; done) | (simp [*]; done)), H', ⟨by have := HK1.out; have := HJ15.out; first | omega | exact Nat.le_refl _⟩, ⟨by (with_reducible repeat (first | apply Kd.R_alloc | apply Kd.R_drewN | apply Kd.R_drew)); exact HO_7.out⟩, ⟨by repeat (first | (with_reducible first | exact HB.out | apply below_alloc | apply pw_below_drewN | apply below_drew1) | exact HB.out)⟩⟩
                                · rw [if_neg c40] at H
                                  exact absurd H (by simp)
                              · rw [if_neg c39] at H
                                exact absurd H (by simp)
                            · rw [if_neg c37] at H
                              have c37b0 : decide ((wrap64 (x8_1 + 2)) < (a0.size : Int)) = false := decide_eq_false c37
                              clear c37
                              have H' := Aside0.mk H
                              clear H
                              have p35 : 0 ≤ (x8_1 : Int) := of_decide_eq_true (by first | (with_reducible assumption) | assumption)
                              have q35 : x8_1 < (a0.size : Int) := of_decide_eq_true (by first | (with_reducible assumption) | assumption)
                              have hx35 := bt_at a0 x8_1
                              replace p35 := eq_true p35
                              replace q35 := eq_true q35
                              go_wp2
                              go_meet
                              case rel => exact ⟨_, (false), (by first | rfl | (simp; done) | (simp [*]; done)), H', ⟨by have := HK1.out; have := HJ15.out; first | omega | exact Nat.le_refl _⟩, ⟨by (with_reducible repeat (first | apply Kd.R_alloc | apply Kd.R_drewN | apply Kd.R_drew)); exact HO_7.out⟩, ⟨by repeat (first | (with_reducible first | exact HB.out | apply below_alloc | apply pw_below_drewN | apply below_drew1) | exact HB.out)⟩⟩
                          · rw [if_neg c36] at H
                            have c36b0 : ((bt a0 x8_1) == 92) = false := beq_eq_false_iff_ne.mpr c36
                            have c36b1 : ((bt a0 x8_1) != 92) = true := bne_iff_ne.mpr c36
                            have H' := Aside0.mk H
                            clear H
                            have p35 : 0 ≤ (x8_1 : Int) := of_decide_eq_true (by first | (with_reducible assumption) | assumption)
                            have q35 : x8_1 < (a0.size : Int) := of_decide_eq_true (by first | (with_reducible assumption) | assumption)
                            have hx35 := bt_at a0 x8_1
                            replace p35 := eq_true p35
                            replace q35 := eq_true q35
                            go_wp2
                            go_meet
                            case rel => exact ⟨_, (false), (by first | rfl | (simp; done) | (simp [*]; done)), H', ⟨by have := HK1.out; have := HJ15.out; first | omega | exact Nat.le_refl _⟩, ⟨by (with_reducible repeat (first | apply Kd.R_alloc | apply Kd.R_drewN | apply Kd.R_drew)); exact HO_7.out⟩, ⟨by repeat (first | (with_reducible first | exact HB.out | apply below_alloc | apply pw_below_drewN | apply below_drew1) | exact HB.out)⟩⟩
                        · rw [if_neg c34] at H
                          exact absurd H (by simp)
                      · rw [if_neg c33] at H
                        exact absurd H (by simp)
                    case rest =>
                      clear HC32
                      try clear c1
                      try clear p1
                      try clear q1
                      try clear hx1
                      try clear c2
                      try clear p2
                      try clear q2
                      try clear hx2
                      try clear c3
                      try clear c3b0
                      try clear p3
                      try clear q3
                      try clear hx3
                      try clear c4
                      try clear p4
                      try clear q4
                      try clear hx4
                      try clear c5
                      try clear c5b0
                      try clear p6
                      try clear q6
                      try clear hx6
                      try clear c7
                      try clear c7b0
                      try clear c7b1
                      try clear hcv8
                      try clear p9
                      try clear q9
                      try clear hx9
                      try clear c10
                      try clear c10b0
                      try clear c10b1
                      try clear c11
                      try clear c11b0
                      try clear c12
                      try clear c12b0
                      try clear c12b1
                      try clear c13
                      try clear c13b0
                      try clear c13b1
                      try clear c14
                      try clear p17
                      try clear q17
                      try clear hx17
                      try clear c18
                      try clear c18b0
                      try clear c18b1
                      try clear c19
                      try clear c19b0
                      try clear c21
                      try clear c21b0
                      try clear p22
                      try clear q22
                      try clear hx22
                      try clear c23
                      try clear c23b0
                      try clear c23b1
                      try clear p24
                      try clear q24
                      try clear hx24
                      try clear c25
                      try clear c27
                      try clear c27b0
                      try clear c28
                      try clear c28b0
                      try clear p29
                      try clear q29
                      try clear hx29
                      try clear c30
                      try clear c33
                      try clear c33b0
                      try clear c34
                      try clear c34b0
                      try clear p35
                      try clear q35
                      try clear hx35
                      try clear c36
                      try clear c36b0
                      try clear c36b1
                      try clear c37
                      try clear c37b0
                      try clear c39
                      try clear c39b0
                      try clear c40
                      try clear c40b0
                      try clear p41
                      try clear q41
                      try clear hx41
                      try clear c43
                      try clear c43b0
                      try clear c45
                      try clear c45b0
                      try clear p46
                      try clear q46
                      try clear hx46
                      try clear p1
                      try clear p17
                      try clear p2
                      try clear p22
                      try clear p24
                      try clear p29
                      try clear p35
                      try clear p41
                      try clear p46
                      try clear p6
                      try clear p9
                      try clear q1
                      try clear q17
                      try clear q2
                      try clear q22
                      try clear q24
                      try clear q29
                      try clear q35
                      try clear q41
                      try clear q46
                      try clear q6
                      try clear q9
                      obtain ⟨kq, x68_31, rfl, HA, HJ31, HO_7, HB⟩ := hcut
                      cases kq with
                      | zero => exact absurd HA.out (by simp [cachepotref3_quoted.j2])
                      | succ kj31 =>
                        have H := HA.out
                        clear HA
                        simp only [cachepotref3_quoted.j2] at H
                        by_cases c48 : x68_31 = true
                        · subst c48
                          have H1 : (if 0 ≤ (wrap64 (x8_1 + 1)) then (if (wrap64 (x8_1 + 1)) < (a0.size : Int) then ((cachepotref3_hex.f kj31 (bt a0 (wrap64 (x8_1 + 1)))).bind fun t138 => (if 0 ≤ (wrap64 (x8_1 + 2)) then (if (wrap64 (x8_1 + 2)) < (a0.size : Int) then ((cachepotref3_hex.f kj31 (bt a0 (wrap64 (x8_1 + 2)))).bind fun t139 => (if x7_1.length < 140737488355328 then (cachepotref3_quoted.l0 kj31 a0 (x7_1 ++ [(wrap64 ((wrap64 (16 * t138)) + t139)) % 256]) (wrap64 (x8_1 + 3))) else (none))) else (none)) else (none))) else (none)) else (none)) = some (r1, r2, r3) := by rw [if_pos rfl] at H; exact H
                          clear H
                          have H := H1
                          clear H1
                          obtain ⟨ji49, hji49⟩ : ∃ j_ : Int, (wrap64 (x8_1 + 1)) = j_ := ⟨_, rfl⟩
                          replace H : (if 0 ≤ (ji49) then (if (ji49) < (a0.size : Int) then ((cachepotref3_hex.f kj31 (bt a0 (ji49))).bind fun t138 => (if 0 ≤ (wrap64 (x8_1 + 2)) then (if (wrap64 (x8_1 + 2)) < (a0.size : Int) then ((cachepotref3_hex.f kj31 (bt a0 (wrap64 (x8_1 + 2)))).bind fun t139 => (if x7_1.length < 140737488355328 then (cachepotref3_quoted.l0 kj31 a0 (x7_1 ++ [(wrap64 ((wrap64 (16 * t138)) + t139)) % 256]) (wrap64 (x8_1 + 3))) else (none))) else (none)) else (none))) else (none)) else (none)) = some (r1, r2, r3) := by first | (rw [hji49] at H; exact H) | (simp only [hji49] at H ⊢; exact H)
                          have hji49w : (IntKind.i64.wrap (x8_1 + 1)) = ji49 := (i64_w _).trans hji49
                          by_cases c50 : 0 ≤ (ji49)
                          · rw [if_pos c50] at H
                            have c50b0 : decide (0 ≤ (ji49)) = true := decide_eq_true c50
                            clear c50
                            by_cases c51 : (ji49) < (a0.size : Int)
                            · rw [if_pos c51] at H
                              have c51b0 : decide ((ji49) < (a0.size : Int)) = true := decide_eq_true c51
                              clear c51
                              replace H := Option.bind_eq_some_iff.mp H
                              obtain ⟨t138, A530, H⟩ := H
                              replace H : (if 0 ≤ (wrap64 (x8_1 + 2)) then (if (wrap64 (x8_1 + 2)) < (a0.size : Int) then ((cachepotref3_hex.f kj31 (bt a0 (wrap64 (x8_1 + 2)))).bind fun t139 => (if x7_1.length < 140737488355328 then (cachepotref3_quoted.l0 kj31 a0 (x7_1 ++ [(wrap64 ((wrap64 (16 * t138)) + t139)) % 256]) (wrap64 (x8_1 + 3))) else (none))) else (none)) else (none)) = some (r1, r2, r3) := H
                              have A53 := Aside0.mk A530
                              clear A530
                              obtain ⟨ji54, hji54⟩ : ∃ j_ : Int, (wrap64 (x8_1 + 2)) = j_ := ⟨_, rfl⟩
                              replace H : (if 0 ≤ (ji54) then (if (ji54) < (a0.size : Int) then ((cachepotref3_hex.f kj31 (bt a0 (ji54))).bind fun t139 => (if x7_1.length < 140737488355328 then (cachepotref3_quoted.l0 kj31 a0 (x7_1 ++ [(wrap64 ((wrap64 (16 * t138)) + t139)) % 256]) (wrap64 (x8_1 + 3))) else (none))) else (none)) else (none)) = some (r1, r2, r3) := by first | (rw [hji54] at H; exact H) | (simp only [hji54] at H ⊢; exact H)
                              (try rw [hji54] at A53)
                              have hji54w : (IntKind.i64.wrap (x8_1 + 2)) = ji54 := (i64_w _).trans hji54
                              by_cases c55 : 0 ≤ (ji54)
                              · rw [if_pos c55] at H
                                have c55b0 : decide (0 ≤ (ji54)) = true := decide_eq_true c55
                                clear c55
                                by_cases c56 : (ji54) < (a0.size : Int)
                                · rw [if_pos c56] at H
                                  have c56b0 : decide ((ji54) < (a0.size : Int)) = true := decide_eq_true c56
                                  clear c56
                                  replace H := Option.bind_eq_some_iff.mp H
                                  obtain ⟨t139, A580, H⟩ := H
                                  replace H : (if x7_1.length < 140737488355328 then (cachepotref3_quoted.l0 kj31 a0 (x7_1 ++ [(wrap64 ((wrap64 (16 * t138)) + t139)) % 256]) (wrap64 (x8_1 + 3))) else (none)) = some (r1, r2, r3) := H
                                  have A58 := Aside0.mk A580
                                  clear A580
                                  by_cases c59 : x7_1.length < 140737488355328
                                  · rw [if_pos c59] at H
                                    have LMc59 := Aside0.mk c59
                                    clear c59
                                    obtain ⟨y140, hy140⟩ : ∃ y_ : List Int, y_ = (x7_1 ++ [(wrap64 ((wrap64 (16 * t138)) + t139)) % 256]) := ⟨_, rfl⟩
                                    replace H : (cachepotref3_quoted.l0 kj31 a0 y140 (wrap64 (x8_1 + 3))) = some (r1, r2, r3) := by first | (rw [hy140]; with_reducible exact H) | (have H2_ := (Option.bind_some _ _).symm.trans H; rw [hy140]; with_reducible exact H2_) | (have H2_ := (Option.bind_some _ _).symm.trans H; with_reducible exact H2_) | with_reducible exact H | (rw [hy140]; exact H) | exact H
                                    have Ny140 := Aside0.mk hy140
                                    clear hy140
                                    have H' := Aside0.mk H
                                    clear H
                                    try go_wp2
                                    have n0_ := Aside0.mk (Kd.R_drew HO_7.out)
                                    have n1_ := Aside0.mk (below_drew1 HB.out)
                                    clear HO_7
                                    clear HB
                                    have HO_7 := n0_
                                    have HB := n1_
                                    clear n0_ n1_
                                    have p52 : 0 ≤ ((ji49) : Int) := of_decide_eq_true (by first | (with_reducible assumption) | assumption)
                                    have q52 : (ji49) < (a0.size : Int) := of_decide_eq_true (by first | (with_reducible assumption) | assumption)
                                    have hx52 := bt_at a0 (ji49)
                                    replace p52 := eq_true p52
                                    replace q52 := eq_true q52
                                    have p57 : 0 ≤ ((ji54) : Int) := of_decide_eq_true (by first | (with_reducible assumption) | assumption)
                                    have q57 : (ji54) < (a0.size : Int) := of_decide_eq_true (by first | (with_reducible assumption) | assumption)
                                    have hx57 := bt_at a0 (ji54)
                                    replace p57 := eq_true p57
                                    replace q57 := eq_true q57
                                    refine start_ (n := 17) (S := fun w' => True) (ds := []) #[false, false, false, false, false, false, false, false, false, false, false, false, false, false, false, false, false] (by kernel_rfl) rfl rfl trivial (fun hHeld => ?_); refine with_tabW cachepotref3_quoted.tab13 cachepotref3_quoted.bits13 (fun HT_ HW_ => ?_)
                                    generalize wc.drew = w60 at HO_7 HB hHeld ⊢
                                    refine pure_ (i := 0) (N := some 96) (v := ?_) (a' := ?_) #[true, false, false, false, false, false, false, false, false, false, false, false, false, false, false, false, false] rfl rfl (any_of HT_.out (by kernel_rfl)) (fun _ _ _ h => h) (Or.inl ⟨by rfl, ?_⟩) ?_ ?_
                                    rotate_left
                                    · intro w'
                                      go_simp
                                      with_reducible rfl
                                    rotate_left
                                    · simp only [Act.put, List.setIfInBounds_toArray, List.set_cons_zero, List.set_cons_succ, i64_w, i32_w]
                                      rfl
                                    refine pure_ (i := 1) (N := some 97) (v := ?_) (a' := ?_) #[true, true, false, false, false, false, false, false, false, false, false, false, false, false, false, false, false] rfl rfl (any_of HT_.out (by kernel_rfl)) (fun _ _ _ h => h) (Or.inl ⟨by rfl, ?_⟩) ?_ ?_
                                    rotate_left
                                    · intro w'
                                      go_simp
                                      with_reducible rfl
                                    rotate_left
                                    · simp only [Act.put, List.setIfInBounds_toArray, List.set_cons_zero, List.set_cons_succ, i64_w, i32_w]
                                      rfl
                                    refine pure_ (i := 2) (N := some 98) (v := ?_) (a' := ?_) #[true, true, true, false, false, false, false, false, false, false, false, false, false, false, false, false, false] rfl rfl (any_of HT_.out (by kernel_rfl)) (fun _ _ _ h => h) (Or.inl ⟨by rfl, ?_⟩) ?_ ?_
                                    rotate_left
                                    · intro w'
                                      go_simp
                                      with_reducible rfl
                                    rotate_left
                                    · simp only [Act.put, List.setIfInBounds_toArray, List.set_cons_zero, List.set_cons_succ, i64_w, i32_w]
                                      rfl
                                    refine pure_ (i := 3) (N := some 99) (v := ?_) (a' := ?_) #[true, true, true, true, false, false, false, false, false, false, false, false, false, false, false, false, false] rfl rfl (any_of HT_.out (by kernel_rfl)) (fun _ _ _ h => h) (Or.inl ⟨by rfl, ?_⟩) ?_ ?_
                                    rotate_left
                                    · intro w'
                                      go_simp
                                      with_reducible rfl
                                    rotate_left
                                    · simp only [Act.put, List.setIfInBounds_toArray, List.set_cons_zero, List.set_cons_succ, i64_w, i32_w]
                                      rfl
                                    refine pure_ (i := 7) (N := some 103) (v := ?_) (a' := ?_) #[true, true, true, true, false, false, false, true, false, false, false, false, false, false, false, false, false] rfl rfl (any_of HT_.out (by kernel_rfl)) (fun _ _ _ h => h) (Or.inl ⟨by rfl, ?_⟩) ?_ ?_
                                    rotate_left
                                    · intro w'
                                      go_simp
                                      with_reducible rfl
                                    rotate_left
                                    · simp only [Act.put, List.setIfInBounds_toArray, List.set_cons_zero, List.set_cons_succ, i64_w, i32_w]
                                      rfl
                                    refine pure_ (i := 8) (N := some 104) (v := ?_) (a' := ?_) #[true, true, true, true, false, false, false, true, true, false, false, false, false, false, false, false, false] rfl rfl (any_of HT_.out (by kernel_rfl)) (fun _ _ _ h => h) (Or.inl ⟨by rfl, ?_⟩) ?_ ?_
                                    rotate_left
                                    · intro w'
                                      go_simp
                                      with_reducible rfl
                                    rotate_left
                                    · simp only [Act.put, List.setIfInBounds_toArray, List.set_cons_zero, List.set_cons_succ, i64_w, i32_w]
                                      rfl
                                    refine pure_ (i := 9) (N := some 105) (v := ?_) (a' := ?_) #[true, true, true, true, false, false, false, true, true, true, false, false, false, false, false, false, false] rfl rfl (any_of HT_.out (by kernel_rfl)) (fun _ _ _ h => h) (Or.inl ⟨by rfl, ?_⟩) ?_ ?_
                                    rotate_left
                                    · intro w'
                                      go_simp
                                      with_reducible rfl
                                    rotate_left
                                    · simp only [Act.put, List.setIfInBounds_toArray, List.set_cons_zero, List.set_cons_succ, i64_w, i32_w]
                                      rfl
                                    refine take_ (i := 4) (N := some 100) (v := ?_) (a' := ?_) #[true, true, true, true, true, false, false, true, true, true, false, false, false, false, false, false, false] rfl rfl (take_ofW HT_.out HW_.out (by kernel_rfl)) (fun _ _ _ h => h) (Or.inl ⟨by rfl, ?_⟩) hHeld ?_ ?_
                                    rotate_left
                                    · intro w' _
                                      go_simp
                                      with_reducible rfl
                                    rotate_left
                                    · simp only [Act.put, List.setIfInBounds_toArray, List.set_cons_zero, List.set_cons_succ, i64_w, i32_w]
                                      rfl
                                    refine take_ (i := 10) (N := some 106) (v := ?_) (a' := ?_) #[true, true, true, true, true, false, false, true, true, true, true, false, false, false, false, false, false] rfl rfl (take_ofW HT_.out HW_.out (by kernel_rfl)) (fun _ _ _ h => h) (Or.inl ⟨by rfl, ?_⟩) hHeld ?_ ?_
                                    rotate_left
                                    · intro w' _
                                      go_simp
                                      with_reducible rfl
                                    rotate_left
                                    · simp only [Act.put, List.setIfInBounds_toArray, List.set_cons_zero, List.set_cons_succ, i64_w, i32_w]
                                      rfl
                                    refine one_ (i := 5) (N := some 101) #[true, true, true, true, true, true, false, true, true, true, true, false, false, false, false, false, false] rfl rfl (one_of HT_.out (by kernel_rfl)) (by decide) (fun K hK => ?_)
                                    refine goes_ Tryd.func92 (by kernel_rfl) rfl #[.int .u8 (bt a0 (ji49))] (by rfl) rfl rfl (by (try simp only [List.map_toArray, List.map_cons, List.map_nil]); first | done | (simp only [hji49]; rfl) | rfl | (simp only [List.length_drop, List.length_take]; rfl)) ?_
                                    with_reducible refine (cachepotref3_hex.calls kj31 (bt a0 (ji49)) t138 _ A53.out).mono ?_
                                    rintro e w' ⟨rfl, ⟨nd, rfl⟩⟩
                                    refine ⟨_, rfl, ?_⟩
                                    refine hK.out _ _ trivial (fun hHeld => ?_)
                                    clear hK K
                                    refine norm_ (a' := ?_) ?_ ?_
                                    rotate_left
                                    · show Act.put _ (some 101) _ = _
                                      simp only [Act.put, List.setIfInBounds_toArray, List.set_cons_zero, List.set_cons_succ, i64_w, i32_w]
                                      rfl
                                    refine pure_ (i := 6) (N := some 102) (v := ?_) (a' := ?_) #[true, true, true, true, true, true, true, true, true, true, true, false, false, false, false, false, false] rfl rfl (any_of HT_.out (by kernel_rfl)) (fun _ _ _ h => h) (Or.inl ⟨by rfl, ?_⟩) ?_ ?_
                                    rotate_left
                                    · intro w'
                                      go_simp
                                      with_reducible rfl
                                    rotate_left
                                    · simp only [Act.put, List.setIfInBounds_toArray, List.set_cons_zero, List.set_cons_succ, i64_w, i32_w]
                                      rfl
                                    refine one_ (i := 11) (N := some 107) #[true, true, true, true, true, true, true, true, true, true, true, true, false, false, false, false, false] rfl rfl (one_of HT_.out (by kernel_rfl)) (by decide) (fun K hK => ?_)
                                    refine goes_ Tryd.func92 (by kernel_rfl) rfl #[.int .u8 (bt a0 (ji54))] (by rfl) rfl rfl (by (try simp only [List.map_toArray, List.map_cons, List.map_nil]); first | done | (simp only [hji54]; rfl) | rfl | (simp only [List.length_drop, List.length_take]; rfl)) ?_
                                    with_reducible refine (cachepotref3_hex.calls kj31 (bt a0 (ji54)) t139 _ A58.out).mono ?_
                                    rintro e w' ⟨rfl, ⟨nd, rfl⟩⟩
                                    refine ⟨_, rfl, ?_⟩
                                    refine hK.out _ _ trivial (fun hHeld => ?_)
                                    clear hK K
                                    refine norm_ (a' := ?_) ?_ ?_
                                    rotate_left
                                    · show Act.put _ (some 107) _ = _
                                      simp only [Act.put, List.setIfInBounds_toArray, List.set_cons_zero, List.set_cons_succ, i64_w, i32_w]
                                      rfl
                                    refine pure_ (i := 12) (N := some 108) (v := ?_) (a' := ?_) #[true, true, true, true, true, true, true, true, true, true, true, true, true, false, false, false, false] rfl rfl (any_of HT_.out (by kernel_rfl)) (fun _ _ _ h => h) (Or.inl ⟨by rfl, ?_⟩) ?_ ?_
                                    rotate_left
                                    · intro w'
                                      go_simp
                                      with_reducible rfl
                                    rotate_left
                                    · simp only [Act.put, List.setIfInBounds_toArray, List.set_cons_zero, List.set_cons_succ, i64_w, i32_w]
                                      rfl
                                    refine pure_ (i := 13) (N := some 109) (v := ?_) (a' := ?_) #[true, true, true, true, true, true, true, true, true, true, true, true, true, true, false, false, false] rfl rfl (any_of HT_.out (by kernel_rfl)) (fun _ _ _ h => h) (Or.inl ⟨by rfl, ?_⟩) ?_ ?_
                                    rotate_left
                                    · intro w'
                                      go_simp
                                      with_reducible rfl
                                    rotate_left
                                    · simp only [Act.put, List.setIfInBounds_toArray, List.set_cons_zero, List.set_cons_succ, i64_w, i32_w]
                                      rfl
                                    refine one_ (i := 14) (N := some 110) #[true, true, true, true, true, true, true, true, true, true, true, true, true, true, true, false, false] rfl rfl (one_of HT_.out (by kernel_rfl)) (by decide) (fun K hK => ?_)
                                    refine value_ (w1 := ?_) (v := ?_) (by rfl) rfl ?_ ?_
                                    rotate_left 2
                                    · go_simp
                                      constructor
                                      · rfl
                                      · rfl
                                    refine hK.out _ _ trivial (fun hHeld => ?_)
                                    clear hK K
                                    refine norm_ (a' := ?_) ?_ ?_
                                    rotate_left
                                    · show Act.put _ (some 110) _ = _
                                      simp only [Act.put, List.setIfInBounds_toArray, List.set_cons_zero, List.set_cons_succ, i64_w, i32_w]
                                      rfl
                                    refine one_ (i := 15) (N := some 111) #[true, true, true, true, true, true, true, true, true, true, true, true, true, true, true, true, false] rfl rfl (one_of HT_.out (by kernel_rfl)) (by decide) (fun K hK => ?_)
                                    refine Kd.R_append_step (Kd.int .u8) (w0 := w) w.heap.size (by rfl) (.tmp 96) (.tmp 110) 32 5 (.int .u8 0) 1 rfl Tryd.underlying32 info5 rfl (by decide) (by omega) u7 x7_1 ((wrap64 ((wrap64 (16 * t138)) + t139)) % 256) [.int .u8 ((wrap64 ((wrap64 (16 * t138)) + t139)) % 256)] (fun _ => True) (fun _ => False) rfl rfl ?aP (fun _ hk => hk.elim) ?aF ?aO ?aB ?aS ?aL ?_
                                    (case aP => exact rfl)
                                    (case aB => exact (by repeat (first | (with_reducible first | exact HB.out | apply below_alloc | apply pw_below_drewN | apply below_drew1) | exact HB.out)))
                                    (case aF => exact (fun _ _ => trivial))
                                    (case aO => exact (by (with_reducible repeat (first | apply Kd.R_alloc | apply Kd.R_drewN | apply Kd.R_drew)); exact HO_7.out))
                                    (case aS => exact (below_size (by repeat (first | (with_reducible first | exact HB.out | apply below_alloc | apply pw_below_drewN | apply below_drew1) | exact HB.out))))
                                    (case aL => have := LMc59.out; omega)
                                    intro v141 w61 ho hb hg hat
                                    rw [← Ny140.out] at ho
                                    have n0_ := Aside0.mk (hb)
                                    have n1_ := Aside0.mk (ho)
                                    clear HB
                                    clear HO_7
                                    have HB := n0_
                                    have HO142 := n1_
                                    clear n0_ n1_
                                    clear ho hb hg hat
                                    refine hK.out _ _ trivial (fun hHeld => ?_)
                                    clear hK K
                                    refine norm_ (a' := ?_) ?_ ?_
                                    rotate_left
                                    · show Act.put _ (some 111) _ = _
                                      simp only [Act.put, List.setIfInBounds_toArray, List.set_cons_zero, List.set_cons_succ, i64_w, i32_w]
                                      rfl
                                    refine pure_ (i := 16) (N := some 7) (v := ?_) (a' := ?_) #[true, true, true, true, true, true, true, true, true, true, true, true, true, true, true, true, true] rfl rfl (any_of HT_.out (by kernel_rfl)) (fun _ _ _ h => h) (Or.inl ⟨by rfl, ?_⟩) ?_ ?_
                                    rotate_left
                                    · intro w'
                                      go_simp
                                      with_reducible rfl
                                    rotate_left
                                    · simp only [Act.put, List.setIfInBounds_toArray, List.set_cons_zero, List.set_cons_succ, i64_w, i32_w]
                                      rfl
                                    refine done_ (done_of HT_.out (by kernel_rfl)) ?_
                                    try go_wp2
                                    go_roundg kj31
                                    case measure => have := HK1.out; have := HJ15.out; have := HJ31.out; omega
                                    case rel => exact ⟨(y140), (wrap64 (x8_1 + 3)), (by first | rfl | (simp; done) | (simp [*]; done)), H', ⟨by have := HK1.out; have := HJ15.out; have := HJ31.out; omega⟩, ⟨by (with_reducible repeat (first | apply Kd.R_alloc | apply Kd.R_drewN | apply Kd.R_drew)); exact HO142.out⟩, ⟨by repeat (first | (with_reducible first | exact HB.out | apply below_alloc | apply pw_below_drewN | apply below_drew1) | exact HB.out)⟩⟩
                                  · rw [if_neg c59] at H
                                    exact absurd H (by simp)
                                · rw [if_neg c56] at H
                                  exact absurd H (by simp)
                              · rw [if_neg c55] at H
                                exact absurd H (by simp)
                            · rw [if_neg c51] at H
                              exact absurd H (by simp)
                          · rw [if_neg c50] at H
                            exact absurd H (by simp)
                        · replace c48 := Bool.eq_false_iff.mpr c48
                          subst c48
                          have H1 : (if t129 = 0 then (some ((⟨#[]⟩ : ByteArray), 0, false)) else (if 0 ≤ x8_1 then (if x8_1 ≤ (wrap64 (x8_1 + t129)) then (if (wrap64 (x8_1 + t129)) ≤ (a0.size : Int) then (if x7_1.length + (a0.extract (x8_1 : Int).toNat ((wrap64 (x8_1 + t129)) : Int).toNat).size < 140737488355328 then (cachepotref3_quoted.l0 kj31 a0 (x7_1 ++ bytesOf (a0.extract (x8_1 : Int).toNat ((wrap64 (x8_1 + t129)) : Int).toNat)) (wrap64 (x8_1 + t129))) else (none)) else (none)) else (none)) else (none))) = some (r1, r2, r3) := by rw [if_neg (show ¬ (false = true) by decide)] at H; exact H
                          clear H
                          have H := H1
                          clear H1
                          by_cases c62 : t129 = 0
                          · rw [if_pos c62] at H
                            have c62b0 : (t129 == 0) = true := beq_iff_eq.mpr c62
                            have c62b1 : (t129 != 0) = false := bne_eq_false_iff_eq.mpr c62
                            clear c62
                            simp only [Option.some.injEq, Prod.mk.injEq] at H
                            obtain ⟨rfl, rfl, rfl⟩ := H
                            go_wp2
                            go_ret3
                            exact ⟨by first | rfl | (simp [errW_none, errW_some] <;> rfl) | (simp [*, errW_none, errW_some] <;> rfl), by repeat (first | (with_reducible first | exact HB.out | apply below_alloc | apply pw_below_drewN | apply below_drew1) | exact HB.out)⟩
                          · rw [if_neg c62] at H
                            have c62b0 : (t129 == 0) = false := beq_eq_false_iff_ne.mpr c62
                            have c62b1 : (t129 != 0) = true := bne_iff_ne.mpr c62
                            by_cases c63 : 0 ≤ x8_1
                            · rw [if_pos c63] at H
                              have c63b0 := eq_true c63
                              have c63b1 : decide (0 ≤ x8_1) = true := decide_eq_true c63
                              clear c63
                              by_cases c64 : x8_1 ≤ (wrap64 (x8_1 + t129))
                              · rw [if_pos c64] at H
                                have c64b0 := eq_true c64
                                have c64b1 : decide (x8_1 ≤ (wrap64 (x8_1 + t129))) = true := decide_eq_true c64
                                by_cases c65 : (wrap64 (x8_1 + t129)) ≤ (a0.size : Int)
                                · rw [if_pos c65] at H
                                  have c65b0 := eq_true c65
                                  have c65b1 : decide ((wrap64 (x8_1 + t129)) ≤ (a0.size : Int)) = true := decide_eq_true c65
                                  by_cases c66 : x7_1.length + (a0.extract (x8_1 : Int).toNat ((wrap64 (x8_1 + t129)) : Int).toNat).size < 140737488355328
                                  · rw [if_pos c66] at H
                                    have LMc66 := Aside0.mk c66
                                    clear c66
                                    obtain ⟨y143, hy143⟩ : ∃ y_ : List Int, y_ = (x7_1 ++ bytesOf (a0.extract (x8_1 : Int).toNat ((wrap64 (x8_1 + t129)) : Int).toNat)) := ⟨_, rfl⟩
                                    replace H : (cachepotref3_quoted.l0 kj31 a0 y143 (wrap64 (x8_1 + t129))) = some (r1, r2, r3) := by first | (rw [hy143]; with_reducible exact H) | (have H2_ := (Option.bind_some _ _).symm.trans H; rw [hy143]; with_reducible exact H2_) | (have H2_ := (Option.bind_some _ _).symm.trans H; with_reducible exact H2_) | with_reducible exact H | (rw [hy143]; exact H) | exact H
                                    have Ny143 := Aside0.mk hy143
                                    clear hy143
                                    have H' := Aside0.mk H
                                    clear H
                                    go_wp2_with (first | (at_builtin; refine print_append_str (w0 := w) w.heap.size rfl (.tmp 117) _ 32 9 5 rfl Tryd.underlying32 Tryd.underlying9 info5 u7 x7_1 (a0.extract (x8_1 : Int).toNat ((wrap64 (x8_1 + t129)) : Int).toNat) rfl rfl ?aO ?aB ?aS ?aL ?_; (case aB => exact (by repeat (first | (with_reducible first | exact HB.out | apply below_alloc | apply pw_below_drewN | apply below_drew1) | exact HB.out))); (case aO => exact (Kd.own_of_R (by (with_reducible repeat (first | apply Kd.R_alloc | apply Kd.R_drewN | apply Kd.R_drew)); exact HO_7.out))); (case aS => exact (below_size (by repeat (first | (with_reducible first | exact HB.out | apply below_alloc | apply pw_below_drewN | apply below_drew1) | exact HB.out)))); (case aL => have := LMc66.out; omega); intro v144 w67 ho0 hb hg; have ho := Kd.R_of_own (h1 := fun _ => rfl) (ok := fun _ => True) ho0 (fun _ _ => trivial); clear ho0; have hat := True.intro; rw [← Ny143.out] at ho; change Kd.R (Kd.int .u8) 5 w67 w.heap.size (fun _ => True) v144 y143 at ho; have n0_ := Aside0.mk (hb); have n1_ := Aside0.mk (ho); clear HB; clear HO_7; have HB := n0_; have HO145 := n1_; clear n0_ n1_; clear ho hb hg hat))
                                    go_roundg kj31
                                    case measure => have := HK1.out; have := HJ15.out; have := HJ31.out; omega
                                    case rel => exact ⟨(y143), (wrap64 (x8_1 + t129)), (by first | rfl | (simp; done) | (simp [*]; done)), H', ⟨by have := HK1.out; have := HJ15.out; have := HJ31.out; omega⟩, ⟨by (with_reducible repeat (first | apply Kd.R_alloc | apply Kd.R_drewN | apply Kd.R_drew)); exact HO145.out⟩, ⟨by repeat (first | (with_reducible first | exact HB.out | apply below_alloc | apply pw_below_drewN | apply below_drew1) | exact HB.out)⟩⟩
                                  · rw [if_neg c66] at H
                                    exact absurd H (by simp)
                                · rw [if_neg c65] at H
                                  exact absurd H (by simp)
                              · rw [if_neg c64] at H
                                exact absurd H (by simp)
                            · rw [if_neg c63] at H
                              exact absurd H (by simp)
        · rw [if_neg c5] at H
          exact absurd H (by simp)
      · rw [if_neg c3] at H
        have c3b0 : decide (x8_1 < (a0.size : Int)) = false := decide_eq_false c3
        clear c3
        simp only [Option.some.injEq, Prod.mk.injEq] at H
        obtain ⟨rfl, rfl, rfl⟩ := H
        go_wp2
        go_ret3
        exact ⟨by first | rfl | (simp [errW_none, errW_some] <;> rfl) | (simp [*, errW_none, errW_some] <;> rfl), by repeat (first | (with_reducible first | exact HB.out | apply below_alloc | apply pw_below_drewN | apply below_drew1) | exact HB.out)⟩
end Go.Proofs.YtfaelejeihmgcaaDoor.Wd
end

section
namespace Go.Proofs.YtfaelejeihmgcaaDoor.Wd
open Go.RowKit Go.Proofs.YtfaelejeihmgcaaDoorW.PrintWords Go.Proofs.YtfaelejeihmgcaaDoorW.PrintLast
def word_Quote.f (a0 : ByteArray) : Option ByteArray := if a0.size ≤ 1099511627776 then some ⟨(quoteB a0).toArray⟩ else none
theorem notOwn_iter {B b : Nat} {v : Value} {l : List UInt8} {w : World} (h : Bld.Is B b v l w) {k pos : Nat} {s : ByteArray} (hk : w.heap[k]? = some (.stringIter s pos)) : some k ≠ v.ownBlock := by
  intro e
  rcases h.own.2 with ⟨hv, _⟩ | ⟨g, cap, cur, hv, hg, hc, _⟩
  · rw [hv] at e; simp [Value.ownBlock] at e
  · rw [hv] at e
    simp only [Value.ownBlock, Option.some.injEq] at e
    subst e
    rw [hk] at hc
    cases hc
theorem notOwn_mark {B b : Nat} {v : Value} {l : List UInt8} {w : World} (h : Bld.Is B b v l w) {k m : Nat} {cs : Array Value} (hk : w.heap[k]? = some (.cells cs 5 (m, m + 1))) : some k ≠ v.ownBlock := by
  intro e
  rcases h.own.2 with ⟨hv, _⟩ | ⟨g, cap, cur, hv, hg, hc, _⟩
  · rw [hv] at e; simp [Value.ownBlock] at e
  · rw [hv] at e
    simp only [Value.ownBlock, Option.some.injEq] at e
    subst e
    rw [hk] at hc
    simp at hc
theorem is_iterAt {B b : Nat} {v : Value} {l : List UInt8} {w : World} (h : Bld.Is B b v l w) {k pos : Nat} {s : ByteArray} (hk : w.heap[k]? = some (.stringIter s pos)) (q : Nat) : Bld.Is B b v l (w.iterAt k s q) := by
  have hne : ∀ i, i ≠ k → (w.iterAt k s q).heap[i]? = w.heap[i]? := fun i hi => by
    simp [World.iterAt, Ne.symm hi]
  refine h.move (hne b ?_) (fun i hi => hne i ?_)
  · intro e
    obtain ⟨p, _, hb⟩ := h.blk
    rw [e, hk] at hb
    cases hb
  · intro e
    exact notOwn_iter h hk (by rw [hi, e])
theorem is_lt_ne {B b : Nat} {v : Value} {l : List UInt8} {w : World} (h : Bld.Is B b v l w) {k pos : Nat} {s : ByteArray} (hk : w.heap[k]? = some (.stringIter s pos)) : k ≠ b := by
  rintro rfl
  obtain ⟨p, _, hb⟩ := h.blk
  rw [hk] at hb
  cases hb
theorem is_mark_ne {B b : Nat} {v : Value} {l : List UInt8} {w : World} (h : Bld.Is B b v l w) {k m : Nat} {cs : Array Value} (hk : w.heap[k]? = some (.cells cs 5 (m, m + 1))) : k ≠ b := by
  rintro rfl
  obtain ⟨p, _, hb⟩ := h.blk
  rw [hk] at hb
  simp at hb
/-- a write beside an iterator and a conversion's row of bytes -/
theorem write_it (B : Nat) (v : Value) (acc : List UInt8) (t : ByteArray) (W : World) (hI : Bld.Is B B v acc W) (hlen : acc.length + t.size ≤ 140737488355328) :
    Calls Tryd.prog 58 #[.pointer (some ⟨B, 0, none⟩), .string t] W fun (e : Ending) (w' : World) => e = .returned (.tuple #[.int .i64 t.size, .nilIface]) ∧ ∃ v', Bld.Is B B v' (acc ++ t.data.toList) w' ∧ Below B W w' ∧
      (∀ (k : Nat) (s : ByteArray) (pos : Nat), W.heap[k]? = some (Obj.stringIter s pos) → w'.heap[k]? = some (Obj.stringIter s pos)) ∧ (∀ (k m : Nat) (cs : Array Value), W.heap[k]? = some (Obj.cells cs 5 (m, m + 1)) → w'.heap[k]? = some (Obj.cells cs 5 (m, m + 1))) := by
  refine (Bld.writeString B B v acc t W hI hlen (by have := hI.lt; omega)).mono ?_
  rintro e w' ⟨rfl, v', h1, h2, h3⟩
  exact ⟨rfl, v', h1, h2, fun k s pos hk => h3 k _ hk (is_lt_ne hI hk) (notOwn_iter hI hk), fun k m cs hk => h3 k _ hk (is_mark_ne hI hk) (notOwn_mark hI hk)⟩
theorem quoteFrom_end (s : ByteArray) (fuel pos : Nat) (h : ¬ pos < s.size) : quoteFrom s fuel pos = [] := by
  cases fuel with
  | zero => rfl
  | succ f => rw [quoteFrom, if_neg h]
set_option maxRecDepth 100000 in
theorem and_nib : ∀ x : Fin 256, Go.bits .and .u8 ((x.val : Nat) : Int) 15 = ((x.val % 16 : Nat) : Int) := by decide
theorem u8_small (x : Int) (h0 : 0 ≤ x) (h1 : x < 256) : IntKind.u8.wrap x = x := IntWalk.u8_in x (by omega)
theorem hexQs_length (l : List UInt8) : (l.flatMap hexQ).length = 3 * l.length := by
  induction l with
  | nil => rfl
  | cons c l ih => rw [List.flatMap_cons, List.length_append, ih]; simp [hexQ]; omega
theorem hexQ_str (c : UInt8) : (((⟨#[92]⟩ : ByteArray) ++ (⟨#[hexD (c.toNat / 16)]⟩ : ByteArray)) ++ (⟨#[hexD (c.toNat % 16)]⟩ : ByteArray)).data.toList = hexQ c := rfl
theorem hexQ_size (c : UInt8) : (((⟨#[92]⟩ : ByteArray) ++ (⟨#[hexD (c.toNat / 16)]⟩ : ByteArray)) ++ (⟨#[hexD (c.toNat % 16)]⟩ : ByteArray)).size = 3 := rfl
abbrev DIG : ByteArray := ⟨#[48, 49, 50, 51, 52, 53, 54, 55, 56, 57, 97, 98, 99, 100, 101, 102]⟩
theorem dig_at : ∀ h : Fin 16, DIG.extract h.val (h.val + 1) = ⟨#[hexD h.val]⟩ := by decide
theorem slice_dig (n : Nat) (hn : n < 16) (x y : Int) (hx : x = n) (hy : y = n + 1) (W : World) :
    (Instr.slice 9 (.string DIG) (some (.int .u8 x)) (some (.int .u8 y)) none).run Tryd.prog W = .ok (.string ⟨#[hexD n]⟩) W := by
  subst hx; subst hy
  have := run_slice_string (P := Tryd.prog) W 9 DIG .u8 .u8 (n : Int) ((n : Int) + 1) Tryd.underlying9 (by omega) (by omega) (by show (n : Int) + 1 ≤ (16 : Nat); omega)
  have e : ((n : Int) + 1).toNat = n + 1 := by omega
  have e2 : ((n : Nat) : Int).toNat = n := by omega
  rw [e, e2, dig_at ⟨n, hn⟩] at this
  exact this
theorem ret_str {a b : ByteArray} (h : a = b) : Ending.returned (.string a) = .returned (.string b) := by rw [h]
set_option maxHeartbeats 4000000 in
set_option maxRecDepth 100000 in
theorem word_Quote.calls (a0 : ByteArray) (r : ByteArray) (w : World) (h : word_Quote.f a0 = some r) (hT : Tabs w) :
    Calls Tryd.prog 26 #[.string a0] w fun e w' => e = .returned (.string r) ∧ Below w.heap.size w w' := by
  have hs : a0.size ≤ 1099511627776 := by
    unfold word_Quote.f at h
    split at h
    · assumption
    · cases h
  have hr : Aside0 (⟨(quoteB a0).toArray⟩ = r) := ⟨by unfold word_Quote.f at h; rw [if_pos hs] at h; exact Option.some.inj h⟩
  clear h
  cases hpl : plainB a0
  · have hpl2 := Aside0.mk hpl
    have hcall : Aside0 (word_plain.f a0 = some false) := ⟨by rw [word_plain.f, hpl]⟩
    clear hpl
    go_enter Tryd.func26, Tryd.ntmps26
    go_wp2_with fail
    refine (word_plain.calls a0 false _ hcall.out hT).mono ?_
    rintro e w1 ⟨rfl, hb1⟩
    have hz1 := hb1.size
    go_wp2_with fail
    refine (Bld.writeByte w1.heap.size w1.heap.size _ [] 34 _ (Bld.Is.fresh w1) (by simp) (by simp)).mono ?_
    rintro e w2 ⟨rfl, v2, hI2, hb2, _⟩
    have hz2 := hb2.size
    have hlt2 := hI2.lt
    have hw2 : Below w.heap.size w w2 := (hb1.alloc hz1 _).trans (hb2.mono hz1)
    have hT2 := hT.below hw2
    go_wp2
    go_loopw [] (fun wr => ∃ (pos fuel : Nat) (acc : List UInt8) (v : Value), Bld.Is w1.heap.size w1.heap.size v acc wr ∧ wr.heap[w2.heap.size]? = some (.stringIter a0 pos) ∧ Below w.heap.size w wr ∧ Aside0 (acc ++ quoteFrom a0 fuel pos = 34 :: quoteFrom a0 a0.size 0) ∧ a0.size ≤ pos + fuel ∧ acc.length ≤ 1 + 3 * pos ∧ pos ≤ a0.size) (fun wr => a0.size - wr.iterPos w2.heap.size)
    case atStart =>
      refine ⟨0, a0.size, [34], v2, hI2.alloc _, World.iter_heap w2 a0 0, hw2.alloc hw2.size _, ⟨rfl⟩, by omega, by simp, by omega⟩
    case round =>
      obtain ⟨pos, fuel, acc, v, hI, hit, hbw, hq, hfu, hal, hpz⟩ := hrel
      by_cases hp : pos < a0.size
      · have hnx : ∀ ty, (Instr.next (.pointer (some ⟨w2.heap.size, 0, none⟩)) true ty).run Tryd.prog wr = _ := fun ty => Lib.run_next_any_at wr w2.heap.size a0 pos ty hit hp
        have hwd := width_pos a0 pos
        have hwl := width_le a0 pos hp
        have hit2 := Lib.iterAt_heap wr w2.heap.size a0 pos (pos + (Utf8.decode a0 pos).2) hit
        have hbw2 := Lib.below_iterAt hbw (k := w2.heap.size) (by omega) a0 (pos + (Utf8.decode a0 pos).2)
        have hI2' := is_iterAt hI hit (pos + (Utf8.decode a0 pos).2)
        obtain ⟨f, rfl⟩ : ∃ f, fuel = f + 1 := ⟨fuel - 1, by omega⟩
        have hmf := Aside0.mk (may_f a0 pos hp)
        have q1 := hq.out
        rw [quoteFrom, if_pos hp] at q1
        clear hq
        have hsl := slice_at a0 pos (width a0 pos) hwl
        have hsl1 : ∀ W : World, (Instr.slice 9 (.string a0) (some (.int .i64 (pos : Int))) (some (.int .i64 ((pos : Int) + 1))) none).run Tryd.prog W = .ok (.string (a0.extract pos (pos + 1))) W := slice_at a0 pos 1 (by omega)
        have hba : byteAt a0 pos = a0[pos] := get_lt a0 pos hp
        have hbl : (a0.extract pos (pos + width a0 pos)).size = width a0 pos := by simp; omega
        have hbe := extract_bytes a0 pos (width a0 pos)
        have hszq : (wr.iterAt w2.heap.size a0 (pos + (Utf8.decode a0 pos).2)).heap.size = wr.heap.size := Lib.iterAt_size _ _ _ _
        have hwz : w.heap.size ≤ wr.heap.size := hbw.size
        by_cases hok : (mayB a0 pos || byteAt a0 pos == 32) = true
        · have hq1 : quote1 a0 pos = bytesAt a0 pos (width a0 pos) := by rw [quote1, if_pos hok]
          rw [hq1, ← List.append_assoc] at q1
          have q2 := Aside0.mk q1
          have hal2 : (acc ++ bytesAt a0 pos (width a0 pos)).length ≤ 1 + 3 * (pos + width a0 pos) := by
            rw [List.length_append]
            have : (bytesAt a0 pos (width a0 pos)).length ≤ width a0 pos := List.length_take_le _ _
            omega
          clear q1 hq1
          have step : ∀ w3, Below wr.heap.size (wr.iterAt w2.heap.size a0 (pos + (Utf8.decode a0 pos).2)) w3 → Calls Tryd.prog 58 #[.pointer (some ⟨w1.heap.size, 0, none⟩), .string (a0.extract pos (pos + width a0 pos))] w3 fun e w' => e = .returned (.tuple #[.int .i64 (a0.extract pos (pos + width a0 pos)).size, .nilIface]) ∧ ∃ v', Bld.Is w1.heap.size w1.heap.size v' (acc ++ bytesAt a0 pos (width a0 pos)) w' ∧ Below w.heap.size w w' ∧ w'.heap[w2.heap.size]? = some (.stringIter a0 (pos + width a0 pos)) := by
            intro w3 hb3
            refine (write_it w1.heap.size v acc _ w3 (hI2'.below (by rw [hszq]; exact hb3)) (by rw [hbl]; omega)).mono ?_
            rintro e w' ⟨rfl, v', h1, h2, h3, _⟩
            rw [hbe] at h1
            refine ⟨rfl, v', h1, (hbw2.trans (hb3.mono hwz)).trans (h2.mono hz1), h3 _ _ _ ?_⟩
            rw [hb3.block _ (Array.getElem?_eq_some_iff.1 hit).1]
            exact hit2
          cases hm : mayB a0 pos
          · have h32 : a0[pos] = 32 := by
              rw [hm, Bool.false_or, hba] at hok
              simpa using hok
            have t32 : ((a0[pos].toNat : Int) == 32) = true := by rw [h32]; rfl
            have hmf2 : Aside0 (word_may.f (a0.extract pos a0.size) = some (false, (width a0 pos : Int))) := ⟨by rw [hmf.out, hm]⟩
            clear h32 hm hok hba hmf hbl hbe hsl1
            go_wp2_with fail
            refine (word_may.calls _ false (width a0 pos) _ hmf2.out (hT.below hbw2)).mono ?_
            rintro e w3 ⟨rfl, hb⟩
            rw [hszq] at hb
            go_wp2_with fail
            refine (step w3 hb).mono ?_
            rintro e w4 ⟨rfl, v', hI4, hb4, hit4⟩
            go_wp2
            go_roundw
            case rel => exact ⟨pos + width a0 pos, f, _, v', hI4, hit4, hb4, q2, by omega, hal2, hwl⟩
            case measure =>
              simp only [World.iterPos, hit4, hit]
              omega
          · have hmf2 : Aside0 (word_may.f (a0.extract pos a0.size) = some (true, (width a0 pos : Int))) := ⟨by rw [hmf.out, hm]⟩
            clear hm hok hba hmf hbl hbe hsl1
            go_wp2_with fail
            refine (word_may.calls _ true (width a0 pos) _ hmf2.out (hT.below hbw2)).mono ?_
            rintro e w3 ⟨rfl, hb⟩
            rw [hszq] at hb
            go_wp2_with fail
            refine (step w3 hb).mono ?_
            rintro e w4 ⟨rfl, v', hI4, hb4, hit4⟩
            go_wp2
            go_roundw
            case rel => exact ⟨pos + width a0 pos, f, _, v', hI4, hit4, hb4, q2, by omega, hal2, hwl⟩
            case measure =>
              simp only [World.iterPos, hit4, hit]
              omega
        · have hm : mayB a0 pos = false := by
            cases h : mayB a0 pos
            · rfl
            · rw [h] at hok; simp at hok
          have h32 : ¬ a0[pos] = 32 := by
            rw [hm, Bool.false_or, hba] at hok
            simpa using hok
          have t32 : ((a0[pos].toNat : Int) == 32) = false := by
            rw [beq_eq_false_iff_ne]
            intro h
            exact h32 (UInt8.toNat_inj.1 (by have : a0[pos].toNat = 32 := by omega
                                             simpa using this))
          have hmf2 : Aside0 (word_may.f (a0.extract pos a0.size) = some (false, (width a0 pos : Int))) := ⟨by rw [hmf.out, hm]⟩
          have q3 : quote1 a0 pos = if byteAt a0 pos == 34 || byteAt a0 pos == 92 then [92, byteAt a0 pos] else (bytesAt a0 pos (width a0 pos)).flatMap hexQ := by rw [quote1, if_neg hok]
          rw [q3, hba, ← List.append_assoc] at q1
          clear h32 hm hok hmf q3
          by_cases h2 : a0[pos] = 34 ∨ a0[pos] = 92
          · rw [if_pos (by rcases h2 with h | h <;> rw [h] <;> rfl)] at q1
            have q2 := Aside0.mk q1
            clear q1
            have hw1 : width a0 pos = 1 := by
              unfold width
              rw [decode_ascii a0 pos hp (by rcases h2 with h | h <;> rw [h] <;> decide)]
            have hb1' : (⟨#[92]⟩ ++ a0.extract pos (pos + 1) : ByteArray).data.toList = [92, a0[pos]] := by
              rw [ByteArray.data_append, Array.toList_append, extract_bytes, bytesAt, List.drop_eq_getElem_cons (by rw [← Lib.size_eq]; exact hp)]
              rfl
            have hbz : (⟨#[92]⟩ ++ a0.extract pos (pos + 1) : ByteArray).size = 2 := by
              rw [Lib.size_eq, hb1']; rfl
            have hez : (a0.extract pos (pos + 1)).size = 1 := by simp; omega
            have step : ∀ w3, Below wr.heap.size (wr.iterAt w2.heap.size a0 (pos + (Utf8.decode a0 pos).2)) w3 → Calls Tryd.prog 58 #[.pointer (some ⟨w1.heap.size, 0, none⟩), .string (⟨#[92]⟩ ++ a0.extract pos (pos + 1))] w3 fun e w' => e = .returned (.tuple #[.int .i64 (⟨#[92]⟩ ++ a0.extract pos (pos + 1) : ByteArray).size, .nilIface]) ∧ ∃ v', Bld.Is w1.heap.size w1.heap.size v' (acc ++ [92, a0[pos]]) w' ∧ Below w.heap.size w w' ∧ w'.heap[w2.heap.size]? = some (.stringIter a0 (pos + width a0 pos)) := by
              intro w3 hb3
              refine (write_it w1.heap.size v acc _ w3 (hI2'.below (by rw [hszq]; exact hb3)) (by rw [hbz]; omega)).mono ?_
              rintro e w' ⟨rfl, v', h1, h2, h3, _⟩
              rw [hb1'] at h1
              refine ⟨rfl, v', h1, (hbw2.trans (hb3.mono hwz)).trans (h2.mono hz1), h3 _ _ _ ?_⟩
              rw [hb3.block _ (Array.getElem?_eq_some_iff.1 hit).1]
              exact hit2
            have hal2 : (acc ++ [92, a0[pos]]).length ≤ 1 + 3 * (pos + width a0 pos) := by
              rw [List.length_append]
              simp
              omega
            clear hba hbl hbe hsl hb1'
            have hez2 : ¬ 9223372036854775807 < 1 + (a0.extract pos (pos + 1)).size := by omega
            clear hbz hez hw1
            rcases h2 with h34 | h92
            · have t34 : ((a0[pos].toNat : Int) == 34) = true := by rw [h34]; rfl
              clear h34
              go_wp2_with fail
              refine (word_may.calls _ false (width a0 pos) _ hmf2.out (hT.below hbw2)).mono ?_
              rintro e w3 ⟨rfl, hb⟩
              rw [hszq] at hb
              go_wp2_with fail
              refine (step w3 hb).mono ?_
              rintro e w4 ⟨rfl, v', hI4, hb4, hit4⟩
              go_wp2
              go_roundw
              case rel => exact ⟨pos + width a0 pos, f, _, v', hI4, hit4, hb4, q2, by omega, hal2, hwl⟩
              case measure =>
                simp only [World.iterPos, hit4, hit]
                omega
            · have t34 : ((a0[pos].toNat : Int) == 34) = false := by rw [h92]; rfl
              have t92 : ((a0[pos].toNat : Int) == 92) = true := by rw [h92]; rfl
              clear h92
              go_wp2_with fail
              refine (word_may.calls _ false (width a0 pos) _ hmf2.out (hT.below hbw2)).mono ?_
              rintro e w3 ⟨rfl, hb⟩
              rw [hszq] at hb
              go_wp2_with fail
              refine (step w3 hb).mono ?_
              rintro e w4 ⟨rfl, v', hI4, hb4, hit4⟩
              go_wp2
              go_roundw
              case rel => exact ⟨pos + width a0 pos, f, _, v', hI4, hit4, hb4, q2, by omega, hal2, hwl⟩
              case measure =>
                simp only [World.iterPos, hit4, hit]
                omega
          · rw [if_neg (by intro h; rw [Bool.or_eq_true] at h; exact h2 (h.imp (by simp) (by simp)))] at q1
            have q2 := Aside0.mk q1
            clear q1
            have t34 : ((a0[pos].toNat : Int) == 34) = false := by
              rw [beq_eq_false_iff_ne]
              intro h
              exact h2 (.inl (UInt8.toNat_inj.1 (by have : a0[pos].toNat = 34 := by omega
                                                    simpa using this)))
            have t92 : ((a0[pos].toNat : Int) == 92) = false := by
              rw [beq_eq_false_iff_ne]
              intro h
              exact h2 (.inr (UInt8.toNat_inj.1 (by have : a0[pos].toNat = 92 := by omega
                                                    simpa using this)))
            have kb := fun W => print_bytes (P := Tryd.prog) 9 32 5 Tryd.underlying9 Tryd.underlying32 Tryd.underlying5 (a0.extract pos (pos + width a0 pos)) W
            clear h2 hba hsl1
            go_wp2_with fail
            refine (word_may.calls _ false (width a0 pos) _ hmf2.out (hT.below hbw2)).mono ?_
            rintro e w3 ⟨rfl, hb⟩
            rw [hszq] at hb
            obtain ⟨wo, rfl⟩ : ∃ wo : World, wo = wr := ⟨_, rfl⟩
            have hes : (a0.extract pos (pos + width a0 pos)).size ≤ 9223372036854775807 := by omega
            obtain ⟨cs, m, hcs, hcell⟩ : ∃ (cs : Array Value) (m : Nat), (Lib.bytesWorld w3 5 (a0.extract pos (pos + width a0 pos))).heap[w3.heap.size]? = some (Obj.cells cs 5 (m, m + 1)) ∧ ∀ j, (hj : j < (bytesAt a0 pos (width a0 pos)).length) → cs[j]? = some (Value.int .u8 ((bytesAt a0 pos (width a0 pos))[j].toNat : Int)) := by
              refine ⟨_, _, Lib.bytesWorld_at_new w3 5 _, fun j hj => ?_⟩
              have h1 := Lib.bytesWorld_cell w3 5 (a0.extract pos (pos + width a0 pos)) j (by rw [Lib.size_eq, hbe]; exact hj)
              have h2 : (Lib.bytesWorld w3 5 (a0.extract pos (pos + width a0 pos))).cell? ⟨w3.heap.size, j, none⟩ = (Lib.bytesCells w3 5 (a0.extract pos (pos + width a0 pos)))[j]? := Lib.cell_of_heap (Lib.bytesWorld_at_new w3 5 _) j
              rw [← h2, h1]
              congr 3
              have : (a0.extract pos (pos + width a0 pos)).data.toList[j]'(by rw [hbe]; exact hj) = (bytesAt a0 pos (width a0 pos))[j] := by simp only [hbe]
              rw [← this, List.getD_eq_getElem?_getD, List.getElem?_eq_getElem (by rw [hbe]; exact hj)]
              rfl
            have hlen : (bytesAt a0 pos (width a0 pos)).length = width a0 pos := by rw [← hbe, ← Lib.size_eq, hbl]
            have hz3 := hb.size
            have hblt := hI2'.lt
            have hitlt := (Array.getElem?_eq_some_iff.1 hit).1
            have hI3 : Bld.Is w1.heap.size w1.heap.size v acc w3 := hI2'.below (by rw [hszq]; exact hb)
            have hit3 : w3.heap[w2.heap.size]? = some (.stringIter a0 (pos + (Utf8.decode a0 pos).2)) := by rw [hb.block _ hitlt]; exact hit2
            have hw3 : Below w.heap.size w w3 := hbw2.trans (hb.mono hwz)
            have hIb : Bld.Is w1.heap.size w1.heap.size v acc (Lib.bytesWorld w3 5 (a0.extract pos (pos + width a0 pos))) :=
              hI3.below (bytes_below (Below.refl _ _) (Nat.le_refl _) 5 _)
            have hitb : (Lib.bytesWorld w3 5 (a0.extract pos (pos + width a0 pos))).heap[w2.heap.size]? = some (.stringIter a0 (pos + (Utf8.decode a0 pos).2)) := by
              rw [Lib.bytesWorld_at_old _ _ _ _ (by omega)]; exact hit3
            have hwb : Below w.heap.size w (Lib.bytesWorld w3 5 (a0.extract pos (pos + width a0 pos))) := bytes_below hw3 hw3.size 5 _
            have Hlen := Lib.hid hlen
            clear hlen hbe hbl
            go_wp2_with fail
            go_loopw [33] (fun i wi => ∃ (j : Nat) (acc2 : List UInt8) (v2 : Value), i = .int .i64 j ∧ j ≤ width a0 pos ∧ Bld.Is w1.heap.size w1.heap.size v2 acc2 wi ∧ wi.heap[w2.heap.size]? = some (.stringIter a0 (pos + (Utf8.decode a0 pos).2)) ∧ wi.heap[w3.heap.size]? = some (Obj.cells cs 5 (m, m + 1)) ∧ Below w.heap.size w wi ∧ Aside0 (acc2 = acc ++ ((bytesAt a0 pos (width a0 pos)).take j).flatMap hexQ)) (fun i _ => width a0 pos - (intOf i).toNat)
            case atStart => exact ⟨0, acc, v, rfl, Nat.zero_le _, hIb, hitb, hcs, hwb, ⟨by simp⟩⟩
            case round =>
              obtain ⟨j, acc2, v2, rfl, hj, hI5, hit5, hcs5, hw5, hacc⟩ := hrel
              by_cases hlt : j < width a0 pos
              · have hc : wr.cell? ⟨w3.heap.size, j, none⟩ = some (.int .u8 ((bytesAt a0 pos (width a0 pos))[j]'(by rw [Hlen.out]; exact hlt)).toNat) := by
                  rw [Lib.cell_of_heap hcs5]; exact hcell j _
                generalize hcb : (bytesAt a0 pos (width a0 pos))[j]'(by rw [Hlen.out]; exact hlt) = c at hc
                have Hcb := Lib.hid hcb
                clear hcb
                have hc255 := c.toNat_lt
                go_wp2
                have hs1 : ∀ W : World, (Instr.slice 9 (.string DIG) (some (.int .u8 ((c.toNat : Int) / 16))) (some (.int .u8 (IntKind.u8.wrap ((c.toNat : Int) / 16 + 1)))) none).run Tryd.prog W = .ok (.string ⟨#[hexD (c.toNat / 16)]⟩) W :=
                  fun W => slice_dig (c.toNat / 16) (by omega) _ _ (by omega) (by rw [u8_small _ (by omega) (by omega)]; omega) W
                have hs2 : ∀ W : World, (Instr.slice 9 (.string DIG) (some (.int .u8 (Go.bits .and .u8 (c.toNat : Int) 15))) (some (.int .u8 (IntKind.u8.wrap (Go.bits .and .u8 (c.toNat : Int) 15 + 1)))) none).run Tryd.prog W = .ok (.string ⟨#[hexD (c.toNat % 16)]⟩) W := fun W => by
                  have e := and_nib ⟨c.toNat, hc255⟩
                  exact slice_dig (c.toNat % 16) (by omega) _ _ e (by rw [e, u8_small _ (by omega) (by simp only []; omega)]) W
                have hj1 : acc2.length + 3 ≤ 140737488355328 := by
                  rw [hacc.out, List.length_append, hexQs_length]
                  have : ((bytesAt a0 pos (width a0 pos)).take j).length ≤ j := List.length_take_le _ _
                  omega
                go_still_tail 14, (by kernel_rfl)
                change wpList _ _ _ _ _ wr.drew
                clear hs1 hs2
                go_wp2_with fail
                refine (write_it w1.heap.size v2 acc2 _ wr.drew hI5.drew (by rw [hexQ_size]; exact hj1)).mono ?_
                rintro e w6 ⟨rfl, v6, hI6, hb6, hk6, hm6⟩
                rw [hexQ_str] at hI6
                go_wp2
                go_roundw
                case rel =>
                  refine ⟨j + 1, _, v6, by simp, hlt, hI6, hk6 _ _ _ hit5, hm6 _ _ _ hcs5, (hw5.drew).trans (hb6.mono hz1), ⟨?_⟩⟩
                  rw [hacc.out, List.append_assoc, List.take_succ_eq_append_getElem (by rw [Hlen.out]; exact hlt), List.flatMap_append, Hcb.out]
                  simp
                case measure => simp [intOf]; omega
              · have hjw : j = width a0 pos := by omega
                have Hjw := Lib.hid hjw
                clear hjw
                go_wp2
                go_roundw
                case rel =>
                  refine ⟨pos + width a0 pos, f, acc2, v2, hI5, hit5, hw5, ⟨?_⟩, by omega, ?_, hwl⟩
                  · rw [hacc.out, Hjw.out, List.take_of_length_le (by rw [Hlen.out]; exact Nat.le_refl _)]
                    exact q2.out
                  · rw [hacc.out, List.length_append, hexQs_length]
                    have : ((bytesAt a0 pos (width a0 pos)).take j).length ≤ j := List.length_take_le _ _
                    omega
                case measure =>
                  simp only [World.iterPos, hit5, hit]
                  unfold width at hwd
                  omega
      · have hnx : ∀ ty, (Instr.next (.pointer (some ⟨w2.heap.size, 0, none⟩)) true ty).run Tryd.prog wr = _ := fun ty => Lib.run_next_end_at wr w2.heap.size a0 pos ty hit hp
        go_wp2_with fail
        refine (Bld.string w1.heap.size w1.heap.size v acc wr hI (by have := hI.lt; omega)).mono ?_
        rintro e w3 ⟨rfl, hb3⟩
        have hcc : ¬ 9223372036854775807 < acc.length + 1 := by omega
        go_wp2
        go_ret
        refine ⟨ret_str ?_, hbw.trans (hb3.mono hz1)⟩
        have q1 := hq.out
        rw [quoteFrom_end _ _ _ hp, List.append_nil] at q1
        rw [← hr.out, quoteB, if_neg (by rw [hpl2.out]; decide), q1]
        rfl
  · have hpl2 := Aside0.mk hpl
    have hcall : Aside0 (word_plain.f a0 = some true) := ⟨by rw [word_plain.f, hpl]⟩
    clear hpl
    go_enter Tryd.func26, Tryd.ntmps26
    go_wp2_with fail
    refine (word_plain.calls a0 true _ hcall.out hT).mono ?_
    rintro e w1 ⟨rfl, hb1⟩
    go_wp2
    go_ret
    refine ⟨ret_str ?_, hb1⟩
    rw [← hr.out, quoteB, if_pos hpl2.out]
end Go.Proofs.YtfaelejeihmgcaaDoor.Wd
end

section
namespace Go.Proofs.YtfaelejeihmgcaaDoor.Wd
open Go.RowKit Go.Proofs.YtfaelejeihmgcaaDoorW.PrintWords Go.Proofs.YtfaelejeihmgcaaDoorW.PrintLast Go.Proofs.YtfaelejeihmgcaaDoorW.PrintMore
attribute [local go_sem] max2_int min2_int max_two min_two max_three min_three max_four min_four   -- for this text's walks alone
set_option linter.unusedVariables false
set_option linter.unusedSimpArgs false
mutual
def cachepotref3_Split.l0 : Nat → ByteArray → List ByteArray → Int → Option (List ByteArray × Int)
  | 0, _, _, _ => none
  | k + 1, x0, x4, x5 => if x5 < (x0.size : Int) then (if 0 ≤ x5 then (cachepotref3_Split.j1 k x0 x4 x5 ((bt x0 x5) == 34)) else (none)) else (cachepotref3_Split.j1 k x0 x4 x5 false)
def cachepotref3_Split.j1 : Nat → ByteArray → List ByteArray → Int → Bool → Option (List ByteArray × Int)
  | 0, _, _, _, _ => none
  | k + 1, x0, x4, x5, x24 => if x24 = true then ((cachepotref3_quoted.f k x0 x5).bind fun bt146 => (if bt146.2.2 = true then (cachepotref3_Split.j3 k x0 x4 bt146.2.1 bt146.1) else (some (([] : List ByteArray), 2)))) else (cachepotref3_Split.l1 k x0 x4 x5 x5)
def cachepotref3_Split.j3 : Nat → ByteArray → List ByteArray → Int → ByteArray → Option (List ByteArray × Int)
  | 0, _, _, _, _ => none
  | k + 1, x0, x4, x5, x6 => if x4.length < 8796093022208 then ((some (x4 ++ [x6] : List ByteArray)).bind fun y151 => (if x5 = (x0.size : Int) then (some (y151, 0)) else (if 0 ≤ x5 then (if x5 < (x0.size : Int) then (if (bt x0 x5) = 32 then (cachepotref3_Split.l0 k x0 y151 (wrap64 (x5 + 1))) else (some (([] : List ByteArray), 2))) else (none)) else (none)))) else (none)
def cachepotref3_Split.l1 : Nat → ByteArray → List ByteArray → Int → Int → Option (List ByteArray × Int)
  | 0, _, _, _, _ => none
  | k + 1, x0, x4, x5, x10 => if x5 < (x0.size : Int) then ((cachepotref3_plain.f k x0 x5).bind fun t149 => (if t149 > 0 then ((cachepotref3_plain.f k x0 x5).bind fun t150 => (cachepotref3_Split.l1 k x0 x4 (wrap64 (x5 + t150)) x10)) else (if x5 = x10 then (some (([] : List ByteArray), 2)) else (if 0 ≤ x10 then (if x10 ≤ x5 then (if x5 ≤ (x0.size : Int) then (cachepotref3_Split.j3 k x0 x4 x5 (x0.extract (x10 : Int).toNat (x5 : Int).toNat)) else (none)) else (none)) else (none))))) else (if x5 = x10 then (some (([] : List ByteArray), 2)) else (if 0 ≤ x10 then (if x10 ≤ x5 then (if x5 ≤ (x0.size : Int) then (cachepotref3_Split.j3 k x0 x4 x5 (x0.extract (x10 : Int).toNat (x5 : Int).toNat)) else (none)) else (none)) else (none)))
end
def cachepotref3_Split.f (k : Nat) (a0 : ByteArray) : Option (List ByteArray × Int) := if a0.toList = ([] : List UInt8) then (some (([] : List ByteArray), 0)) else (cachepotref3_Split.l0 k a0 ([] : List ByteArray) 0)
set_option maxHeartbeats 8000000 in
set_option maxRecDepth 100000 in
theorem cachepotref3_Split.calls (k : Nat) (a0 : ByteArray) (r1 : List ByteArray) (r2 : Int) (w : World) (h : cachepotref3_Split.f k a0 = some (r1, r2)) :
    Calls Tryd.prog 20 #[.string a0] w fun e w' => ∃ v0_ : Value, e = .returned (.tuple #[v0_, .int .i64 r2]) ∧ Kd.R Kd.string 9 w' w.heap.size (fun _ => True) v0_ r1 ∧ Below w.heap.size w w' := by
  have HB := Aside0.mk (Below.refl w.heap.size w)
  have H : (if a0.toList = ([] : List UInt8) then (some (([] : List ByteArray), 0)) else (cachepotref3_Split.l0 k a0 ([] : List ByteArray) 0)) = some (r1, r2) := h
  clear h
  by_cases c2 : a0.toList = ([] : List UInt8)
  · rw [if_pos c2] at H
    have c2b0 : (a0.toList == ([] : List UInt8)) = true := beq_iff_eq.mpr c2
    have c2b1 : (a0.toList != ([] : List UInt8)) = false := bne_eq_false_iff_eq.mpr c2
    clear c2
    simp only [Option.some.injEq, Prod.mk.injEq] at H
    obtain ⟨rfl, rfl⟩ := H
    go_enter Tryd.func20, Tryd.ntmps20
    go_wp2
    go_ret2
    exact ⟨_, by first | rfl | (simp [errW_none, errW_some] <;> rfl) | (simp [*, errW_none, errW_some] <;> rfl), by first | exact Kd.R_nil _ _ _ _ _ | exact Kd.N_nil _ _ _ _ _ | exact Kd.V_nil _ _ _ _ _ | exact Kd.Q_nil _ _ _ _ _ | exact Kd.S_nil _ _ _ _ _, by repeat (first | (with_reducible first | exact HB.out | apply below_alloc | apply pw_below_drewN | apply below_drew1) | exact HB.out)⟩
  · rw [if_neg c2] at H
    have c2b0 : (a0.toList == ([] : List UInt8)) = false := beq_eq_false_iff_ne.mpr c2
    have c2b1 : (a0.toList != ([] : List UInt8)) = true := bne_iff_ne.mpr c2
    have H' := Aside0.mk H
    clear H
    go_enter Tryd.func20, Tryd.ntmps20
    go_wp2
    go_loopg [4, 5] k (fun kq v4 v5 w' => ∃ (x4_1 : List ByteArray) (x5_1 : Int), v5 = .int .i64 x5_1 ∧ Aside0 (cachepotref3_Split.l0 kq a0 x4_1 x5_1 = some (r1, r2)) ∧ Aside0 (kq ≤ k) ∧ Aside0 (Kd.R Kd.string 9 w' w.heap.size (fun _ => True) v4 x4_1) ∧ Aside0 (Below w.heap.size w w'))
    case atStart => exact ⟨(([] : List ByteArray)), (0), (by first | rfl | (simp; done) | (simp [*]; done)), H', ⟨Nat.le_refl _⟩, ⟨by first | exact Kd.R_nil _ _ _ _ _ | exact Kd.N_nil _ _ _ _ _ | exact Kd.V_nil _ _ _ _ _ | exact Kd.Q_nil _ _ _ _ _ | exact Kd.S_nil _ _ _ _ _⟩, ⟨by repeat (first | (with_reducible first | exact HB.out | apply below_alloc | apply pw_below_drewN | apply below_drew1) | exact HB.out)⟩⟩
    case round =>
      clear H'
      try clear c2
      try clear c2b0
      try clear c2b1
      try clear p2
      obtain ⟨x4_1, x5_1, rfl, HA, HK1, HO_4, HB⟩ := hrel
      cases gk with
      | zero => exact absurd HA.out (by simp [cachepotref3_Split.l0])
      | succ k1 =>
        have H := HA.out
        clear HA
        simp only [cachepotref3_Split.l0] at H
        have HC3 := Aside0.mk H
        clear H
        go_upto_region 7 with (fail)
        go_cut [24] (fun v24 wc => ∃ (kq : Nat) (x24_2 : Bool), v24 = .bool x24_2 ∧ Aside0 (cachepotref3_Split.j1 kq a0 x4_1 x5_1 x24_2 = some (r1, r2)) ∧ Aside0 (kq ≤ k1) ∧ Aside0 (Kd.R Kd.string 9 wc w.heap.size (fun _ => True) u4 x4_1) ∧ Aside0 (Below w.heap.size w wc))
        case first =>
          have H := HC3.out
          clear HC3
          by_cases c4 : x5_1 < (a0.size : Int)
          · rw [if_pos c4] at H
            have c4b0 : decide (x5_1 < (a0.size : Int)) = true := decide_eq_true c4
            clear c4
            (first | rw [c4b0] | (simp only [i64_w, i32_w]; rw [c4b0]) | skip)
            by_cases c5 : 0 ≤ x5_1
            · rw [if_pos c5] at H
              have c5b0 : decide (0 ≤ x5_1) = true := decide_eq_true c5
              clear c5
              have H' := Aside0.mk H
              clear H
              have p6 : 0 ≤ (x5_1 : Int) := of_decide_eq_true (by first | (with_reducible assumption) | assumption)
              have q6 : x5_1 < (a0.size : Int) := of_decide_eq_true (by first | (with_reducible assumption) | assumption)
              have hx6 := bt_at a0 x5_1
              replace p6 := eq_true p6
              replace q6 := eq_true q6
              go_wp2
              go_meet
              case rel => exact ⟨_, (((bt a0 x5_1) == 34)), (by first | rfl | (simp; done) | (simp [*]; done)), H', ⟨by have := HK1.out; first | omega | exact Nat.le_refl _⟩, ⟨by (with_reducible repeat (first | apply Kd.R_alloc | apply Kd.R_drewN | apply Kd.R_drew)); exact HO_4.out⟩, ⟨by repeat (first | (with_reducible first | exact HB.out | apply below_alloc | apply pw_below_drewN | apply below_drew1) | exact HB.out)⟩⟩
            · rw [if_neg c5] at H
              exact absurd H (by simp)
          · rw [if_neg c4] at H
            have c4b0 : decide (x5_1 < (a0.size : Int)) = false := decide_eq_false c4
            clear c4
            (first | rw [c4b0] | (simp only [i64_w, i32_w]; rw [c4b0]) | skip)
            have H' := Aside0.mk H
            clear H
            go_wp2
            go_meet
            case rel => exact ⟨_, (false), (by first | rfl | (simp; done) | (simp [*]; done)), H', ⟨by have := HK1.out; first | omega | exact Nat.le_refl _⟩, ⟨by (with_reducible repeat (first | apply Kd.R_alloc | apply Kd.R_drewN | apply Kd.R_drew)); exact HO_4.out⟩, ⟨by repeat (first | (with_reducible first | exact HB.out | apply below_alloc | apply pw_below_drewN | apply below_drew1) | exact HB.out)⟩⟩
        case rest =>
          clear HC3
          try clear c2
          try clear c2b0
          try clear c2b1
          try clear p2
          try clear c4
          try clear c4b0
          try clear c5
          try clear c5b0
          try clear p6
          try clear q6
          try clear hx6
          try clear p2
          try clear p6
          try clear q6
          obtain ⟨kq, x24_2, rfl, HA, HJ2, HO_4, HB⟩ := hcut
          cases kq with
          | zero => exact absurd HA.out (by simp [cachepotref3_Split.j1])
          | succ kj2 =>
            have H := HA.out
            clear HA
            simp only [cachepotref3_Split.j1] at H
            have HC7 := Aside0.mk H
            clear H
            go_upto_if 24 with (fail)
            go_cut [5, 6] (fun v5 v6 wc => ∃ (kq : Nat) (x5_6 : Int) (x6_6 : ByteArray), v5 = .int .i64 x5_6 ∧ v6 = .string x6_6 ∧ Aside0 (cachepotref3_Split.j3 kq a0 x4_1 x5_6 x6_6 = some (r1, r2)) ∧ Aside0 (kq ≤ kj2) ∧ Aside0 (Kd.R Kd.string 9 wc w.heap.size (fun _ => True) u4 x4_1) ∧ Aside0 (Below w.heap.size w wc))
            case first =>
              have H := HC7.out
              clear HC7
              by_cases c8 : x24_2 = true
              · subst c8
                have H1 : ((cachepotref3_quoted.f kj2 a0 x5_1).bind fun bt146 => (if bt146.2.2 = true then (cachepotref3_Split.j3 kj2 a0 x4_1 bt146.2.1 bt146.1) else (some (([] : List ByteArray), 2)))) = some (r1, r2) := by rw [if_pos rfl] at H; exact H
                clear H
                have H := H1
                clear H1
                replace H := Option.bind_eq_some_iff.mp H
                obtain ⟨⟨t146, t147, t148⟩, A90, H⟩ := H
                replace H : (if t148 = true then (cachepotref3_Split.j3 kj2 a0 x4_1 t147 t146) else (some (([] : List ByteArray), 2))) = some (r1, r2) := H
                have A9 := Aside0.mk A90
                clear A90
                by_cases c10 : t148 = true
                · subst c10
                  have H1 : (cachepotref3_Split.j3 kj2 a0 x4_1 t147 t146) = some (r1, r2) := by rw [if_pos rfl] at H; exact H
                  clear H
                  have H := H1
                  clear H1
                  have H' := Aside0.mk H
                  clear H
                  go_wp2_with (first | ((with_reducible refine gate_callee (f := 53) rfl ?_); refine goesL_ (some 28) rfl rfl Tryd.func53 (by kernel_rfl) rfl #[.string a0, .int .i64 x5_1] rfl (by (try simp only [List.map_toArray, List.map_cons, List.map_nil]); first | done | rfl | (simp only [List.length_drop, List.length_take]; rfl)) ?_; (with_reducible refine (cachepotref3_quoted.calls kj2 a0 x5_1 t146 t147 true _ A9.out).mono ?_); rintro e w11 ⟨rfl, hb⟩; refine ⟨_, rfl, ?_⟩; have n0_ := Aside0.mk (Kd.R_below (by (with_reducible repeat (first | apply Kd.R_alloc | apply Kd.R_drewN | apply Kd.R_drew)); exact HO_4.out) hb); have n1_ := Aside0.mk (below_step (by repeat (first | (with_reducible first | exact HB.out | apply below_alloc | apply pw_below_drewN | apply below_drew1) | exact HB.out)) hb); clear HO_4; clear HB; have HO_4 := n0_; have HB := n1_; clear n0_ n1_; (try clear hb); (try clear hb2); (try clear hk); (try clear hi)))
                  go_meet
                  case rel => exact ⟨_, (t147), (t146), (by first | rfl | (simp; done) | (simp [*]; done)), (by first | rfl | (simp; done) | (simp [*]; done)), H', ⟨by have := HK1.out; have := HJ2.out; first | omega | exact Nat.le_refl _⟩, ⟨by (with_reducible repeat (first | apply Kd.R_alloc | apply Kd.R_drewN | apply Kd.R_drew)); exact HO_4.out⟩, ⟨by repeat (first | (with_reducible first | exact HB.out | apply below_alloc | apply pw_below_drewN | apply below_drew1) | exact HB.out)⟩⟩
                · replace c10 := Bool.eq_false_iff.mpr c10
                  subst c10
                  have H1 : (some (([] : List ByteArray), 2)) = some (r1, r2) := by rw [if_neg (show ¬ (false = true) by decide)] at H; exact H
                  clear H
                  have H := H1
                  clear H1
                  simp only [Option.some.injEq, Prod.mk.injEq] at H
                  obtain ⟨rfl, rfl⟩ := H
                  go_wp2_with (first | ((with_reducible refine gate_callee (f := 53) rfl ?_); refine goesL_ (some 28) rfl rfl Tryd.func53 (by kernel_rfl) rfl #[.string a0, .int .i64 x5_1] rfl (by (try simp only [List.map_toArray, List.map_cons, List.map_nil]); first | done | rfl | (simp only [List.length_drop, List.length_take]; rfl)) ?_; (with_reducible refine (cachepotref3_quoted.calls kj2 a0 x5_1 t146 t147 false _ A9.out).mono ?_); rintro e w12 ⟨rfl, hb⟩; refine ⟨_, rfl, ?_⟩; have n0_ := Aside0.mk (Kd.R_below (by (with_reducible repeat (first | apply Kd.R_alloc | apply Kd.R_drewN | apply Kd.R_drew)); exact HO_4.out) hb); have n1_ := Aside0.mk (below_step (by repeat (first | (with_reducible first | exact HB.out | apply below_alloc | apply pw_below_drewN | apply below_drew1) | exact HB.out)) hb); clear HO_4; clear HB; have HO_4 := n0_; have HB := n1_; clear n0_ n1_; (try clear hb); (try clear hb2); (try clear hk); (try clear hi)))
                  go_ret2
                  exact ⟨_, by first | rfl | (simp [errW_none, errW_some] <;> rfl) | (simp [*, errW_none, errW_some] <;> rfl), by first | exact Kd.R_nil _ _ _ _ _ | exact Kd.N_nil _ _ _ _ _ | exact Kd.V_nil _ _ _ _ _ | exact Kd.Q_nil _ _ _ _ _ | exact Kd.S_nil _ _ _ _ _, by repeat (first | (with_reducible first | exact HB.out | apply below_alloc | apply pw_below_drewN | apply below_drew1) | exact HB.out)⟩
              · replace c8 := Bool.eq_false_iff.mpr c8
                subst c8
                have H1 : (cachepotref3_Split.l1 kj2 a0 x4_1 x5_1 x5_1) = some (r1, r2) := by rw [if_neg (show ¬ (false = true) by decide)] at H; exact H
                clear H
                have H := H1
                clear H1
                have H' := Aside0.mk H
                clear H
                go_wp2
                go_loopg [5] kj2 (fun kq v5 w' => ∃ (x5_3 : Int), v5 = .int .i64 x5_3 ∧ Aside0 (cachepotref3_Split.l1 kq a0 x4_1 x5_3 x5_1 = some (r1, r2)) ∧ Aside0 (kq ≤ kj2) ∧ Aside0 (Kd.R Kd.string 9 w' w.heap.size (fun _ => True) u4 x4_1) ∧ Aside0 (Below w.heap.size w w'))
                case atStart => exact ⟨(x5_1), (by first | rfl | (simp; done) | (simp [*]; done)), H', ⟨Nat.le_refl _⟩, ⟨by (with_reducible repeat (first | apply Kd.R_alloc | apply Kd.R_drewN | apply Kd.R_drew)); exact HO_4.out⟩, ⟨by repeat (first | (with_reducible first | exact HB.out | apply below_alloc | apply pw_below_drewN | apply below_drew1) | exact HB.out)⟩⟩
                case round =>
                  clear H'
                  try clear c1
                  try clear c2
                  try clear c2b0
                  try clear c2b1
                  try clear p2
                  try clear c4
                  try clear c4b0
                  try clear c5
                  try clear c5b0
                  try clear p6
                  try clear q6
                  try clear hx6
                  try clear c8
                  try clear c10
                  try clear p2
                  try clear p6
                  try clear q6
                  obtain ⟨x5_3, rfl, HA, HK3, HO_4, HB⟩ := hrel
                  cases gk with
                  | zero => exact absurd HA.out (by simp [cachepotref3_Split.l1])
                  | succ k3 =>
                    have H := HA.out
                    clear HA
                    simp only [cachepotref3_Split.l1] at H
                    by_cases c13 : x5_3 < (a0.size : Int)
                    · rw [if_pos c13] at H
                      have c13b0 : decide (x5_3 < (a0.size : Int)) = true := decide_eq_true c13
                      clear c13
                      (first | rw [c13b0] | (simp only [i64_w, i32_w]; rw [c13b0]) | skip)
                      replace H := Option.bind_eq_some_iff.mp H
                      obtain ⟨t149, A140, H⟩ := H
                      replace H : (if t149 > 0 then ((cachepotref3_plain.f k3 a0 x5_3).bind fun t150 => (cachepotref3_Split.l1 k3 a0 x4_1 (wrap64 (x5_3 + t150)) x5_1)) else (if x5_3 = x5_1 then (some (([] : List ByteArray), 2)) else (if 0 ≤ x5_1 then (if x5_1 ≤ x5_3 then (if x5_3 ≤ (a0.size : Int) then (cachepotref3_Split.j3 k3 a0 x4_1 x5_3 (a0.extract (x5_1 : Int).toNat (x5_3 : Int).toNat)) else (none)) else (none)) else (none)))) = some (r1, r2) := H
                      have A14 := Aside0.mk A140
                      clear A140
                      by_cases c15 : t149 > 0
                      · rw [if_pos c15] at H
                        have c15b0 : decide (0 < t149) = true := decide_eq_true c15
                        clear c15
                        replace H := Option.bind_eq_some_iff.mp H
                        obtain ⟨t150, A160, H⟩ := H
                        replace H : (cachepotref3_Split.l1 k3 a0 x4_1 (wrap64 (x5_3 + t150)) x5_1) = some (r1, r2) := H
                        have A16 := Aside0.mk A160
                        clear A160
                        have H' := Aside0.mk H
                        clear H
                        go_wp2_with (first | (go_at_call 54; (with_reducible refine (cachepotref3_plain.calls k3 a0 x5_3 t149 _ A14.out).mono ?_); rintro e w' ⟨rfl, ⟨nd, rfl⟩⟩) | ((with_reducible refine gate_callee (f := 54) rfl ?_); refine goesL_ (some 50) rfl rfl Tryd.func54 (by kernel_rfl) rfl #[.string a0, .int .i64 x5_3] rfl (by (try simp only [List.map_toArray, List.map_cons, List.map_nil]); first | done | rfl | (simp only [List.length_drop, List.length_take]; rfl)) ?_; (with_reducible refine (cachepotref3_plain.calls k3 a0 x5_3 t150 _ A16.out).mono ?_); rintro e w' ⟨rfl, ⟨nd, rfl⟩⟩; refine ⟨_, rfl, ?_⟩))
                        go_roundg k3
                        case measure => have := HK1.out; have := HJ2.out; have := HK3.out; omega
                        case rel => exact ⟨(wrap64 (x5_3 + t150)), (by first | rfl | (simp; done) | (simp [*]; done)), H', ⟨by have := HK1.out; have := HJ2.out; have := HK3.out; omega⟩, ⟨by (with_reducible repeat (first | apply Kd.R_alloc | apply Kd.R_drewN | apply Kd.R_drew)); exact HO_4.out⟩, ⟨by repeat (first | (with_reducible first | exact HB.out | apply below_alloc | apply pw_below_drewN | apply below_drew1) | exact HB.out)⟩⟩
                      · rw [if_neg c15] at H
                        have c15b0 : decide (0 < t149) = false := decide_eq_false c15
                        clear c15
                        by_cases c17 : x5_3 = x5_1
                        · rw [if_pos c17] at H
                          have c17b0 : (x5_3 == x5_1) = true := beq_iff_eq.mpr c17
                          have c17b1 : (x5_3 != x5_1) = false := bne_eq_false_iff_eq.mpr c17
                          clear c17
                          simp only [Option.some.injEq, Prod.mk.injEq] at H
                          obtain ⟨rfl, rfl⟩ := H
                          go_wp2_with (first | (go_at_call 54; (with_reducible refine (cachepotref3_plain.calls k3 a0 x5_3 t149 _ A14.out).mono ?_); rintro e w' ⟨rfl, ⟨nd, rfl⟩⟩))
                          go_ret2
                          exact ⟨_, by first | rfl | (simp [errW_none, errW_some] <;> rfl) | (simp [*, errW_none, errW_some] <;> rfl), by first | exact Kd.R_nil _ _ _ _ _ | exact Kd.N_nil _ _ _ _ _ | exact Kd.V_nil _ _ _ _ _ | exact Kd.Q_nil _ _ _ _ _ | exact Kd.S_nil _ _ _ _ _, by repeat (first | (with_reducible first | exact HB.out | apply below_alloc | apply pw_below_drewN | apply below_drew1) | exact HB.out)⟩
                        · rw [if_neg c17] at H
                          have c17b0 : (x5_3 == x5_1) = false := beq_eq_false_iff_ne.mpr c17
                          have c17b1 : (x5_3 != x5_1) = true := bne_iff_ne.mpr c17
                          by_cases c18 : 0 ≤ x5_1
                          · rw [if_pos c18] at H
                            have c18b0 := eq_true c18
                            have c18b1 : decide (0 ≤ x5_1) = true := decide_eq_true c18
                            clear c18
                            by_cases c19 : x5_1 ≤ x5_3
                            · rw [if_pos c19] at H
                              have c19b0 := eq_true c19
                              have c19b1 : decide (x5_1 ≤ x5_3) = true := decide_eq_true c19
                              clear c19
                              by_cases c20 : x5_3 ≤ (a0.size : Int)
                              · rw [if_pos c20] at H
                                have c20b0 := eq_true c20
                                have c20b1 : decide (x5_3 ≤ (a0.size : Int)) = true := decide_eq_true c20
                                clear c20
                                have H' := Aside0.mk H
                                clear H
                                go_wp2_with (first | (go_at_call 54; (with_reducible refine (cachepotref3_plain.calls k3 a0 x5_3 t149 _ A14.out).mono ?_); rintro e w' ⟨rfl, ⟨nd, rfl⟩⟩))
                                go_meet
                                case rel => exact ⟨_, (x5_3), (a0.extract (x5_1 : Int).toNat (x5_3 : Int).toNat), (by first | rfl | (simp; done) | (simp [*]; done)), (by first | rfl | (simp; done) | (simp [*]; done)), H', ⟨by have := HK1.out; have := HJ2.out; have := HK3.out; first | omega | exact Nat.le_refl _⟩, ⟨by (with_reducible repeat (first | apply Kd.R_alloc | apply Kd.R_drewN | apply Kd.R_drew)); exact HO_4.out⟩, ⟨by repeat (first | (with_reducible first | exact HB.out | apply below_alloc | apply pw_below_drewN | apply below_drew1) | exact HB.out)⟩⟩
                              · rw [if_neg c20] at H
                                exact absurd H (by simp)
                            · rw [if_neg c19] at H
                              exact absurd H (by simp)
                          · rw [if_neg c18] at H
                            exact absurd H (by simp)
                    · rw [if_neg c13] at H
                      have c13b0 : decide (x5_3 < (a0.size : Int)) = false := decide_eq_false c13
                      clear c13
                      (first | rw [c13b0] | (simp only [i64_w, i32_w]; rw [c13b0]) | skip)
                      by_cases c21 : x5_3 = x5_1
                      · rw [if_pos c21] at H
                        have c21b0 : (x5_3 == x5_1) = true := beq_iff_eq.mpr c21
                        have c21b1 : (x5_3 != x5_1) = false := bne_eq_false_iff_eq.mpr c21
                        clear c21
                        simp only [Option.some.injEq, Prod.mk.injEq] at H
                        obtain ⟨rfl, rfl⟩ := H
                        go_wp2
                        go_ret2
                        exact ⟨_, by first | rfl | (simp [errW_none, errW_some] <;> rfl) | (simp [*, errW_none, errW_some] <;> rfl), by first | exact Kd.R_nil _ _ _ _ _ | exact Kd.N_nil _ _ _ _ _ | exact Kd.V_nil _ _ _ _ _ | exact Kd.Q_nil _ _ _ _ _ | exact Kd.S_nil _ _ _ _ _, by repeat (first | (with_reducible first | exact HB.out | apply below_alloc | apply pw_below_drewN | apply below_drew1) | exact HB.out)⟩
                      · rw [if_neg c21] at H
                        have c21b0 : (x5_3 == x5_1) = false := beq_eq_false_iff_ne.mpr c21
                        have c21b1 : (x5_3 != x5_1) = true := bne_iff_ne.mpr c21
                        by_cases c22 : 0 ≤ x5_1
                        · rw [if_pos c22] at H
                          have c22b0 := eq_true c22
                          have c22b1 : decide (0 ≤ x5_1) = true := decide_eq_true c22
                          clear c22
                          by_cases c23 : x5_1 ≤ x5_3
                          · rw [if_pos c23] at H
                            have c23b0 := eq_true c23
                            have c23b1 : decide (x5_1 ≤ x5_3) = true := decide_eq_true c23
                            clear c23
                            by_cases c24 : x5_3 ≤ (a0.size : Int)
                            · rw [if_pos c24] at H
                              have c24b0 := eq_true c24
                              have c24b1 : decide (x5_3 ≤ (a0.size : Int)) = true := decide_eq_true c24
                              clear c24
                              have H' := Aside0.mk H
                              clear H
                              go_wp2
                              go_meet
                              case rel => exact ⟨_, (x5_3), (a0.extract (x5_1 : Int).toNat (x5_3 : Int).toNat), (by first | rfl | (simp; done) | (simp [*]; done)), (by first | rfl | (simp; done) | (simp [*]; done)), H', ⟨by have := HK1.out; have := HJ2.out; have := HK3.out; first | omega | exact Nat.le_refl _⟩, ⟨by (with_reducible repeat (first | apply Kd.R_alloc | apply Kd.R_drewN | apply Kd.R_drew)); exact HO_4.out⟩, ⟨by repeat (first | (with_reducible first | exact HB.out | apply below_alloc | apply pw_below_drewN | apply below_drew1) | exact HB.out)⟩⟩
                            · rw [if_neg c24] at H
                              exact absurd H (by simp)
                          · rw [if_neg c23] at H
                            exact absurd H (by simp)
                        · rw [if_neg c22] at H
                          exact absurd H (by simp)
            case rest =>
              clear HC7
              try clear c1
              try clear c2
              try clear c2b0
              try clear c2b1
              try clear p2
              try clear c4
              try clear c4b0
              try clear c5
              try clear c5b0
              try clear p6
              try clear q6
              try clear hx6
              try clear c8
              try clear c10
              try clear c13
              try clear c13b0
              try clear c15
              try clear c15b0
              try clear c17
              try clear c17b0
              try clear c17b1
              try clear c18
              try clear c18b0
              try clear c18b1
              try clear c19
              try clear c19b0
              try clear c19b1
              try clear c20
              try clear c20b0
              try clear c20b1
              try clear c21
              try clear c21b0
              try clear c21b1
              try clear c22
              try clear c22b0
              try clear c22b1
              try clear c23
              try clear c23b0
              try clear c23b1
              try clear c24
              try clear c24b0
              try clear c24b1
              try clear p2
              try clear p6
              try clear q6
              obtain ⟨kq, x5_6, x6_6, rfl, rfl, HA, HJ6, HO_4, HB⟩ := hcut
              cases kq with
              | zero => exact absurd HA.out (by simp [cachepotref3_Split.j3])
              | succ kj6 =>
                have H := HA.out
                clear HA
                simp only [cachepotref3_Split.j3] at H
                by_cases c25 : x4_1.length < 8796093022208
                · rw [if_pos c25] at H
                  have LMc25 := Aside0.mk c25
                  clear c25
                  obtain ⟨y151, hy151⟩ : ∃ y_ : List ByteArray, y_ = (x4_1 ++ [x6_6]) := ⟨_, rfl⟩
                  replace H : (if x5_6 = (a0.size : Int) then (some (y151, 0)) else (if 0 ≤ x5_6 then (if x5_6 < (a0.size : Int) then (if (bt a0 x5_6) = 32 then (cachepotref3_Split.l0 kj6 a0 y151 (wrap64 (x5_6 + 1))) else (some (([] : List ByteArray), 2))) else (none)) else (none))) = some (r1, r2) := by first | (rw [hy151]; with_reducible exact H) | (have H2_ := (Option.bind_some _ _).symm.trans H; rw [hy151]; with_reducible exact H2_) | (have H2_ := (Option.bind_some _ _).symm.trans H; with_reducible exact H2_) | with_reducible exact H | (rw [hy151]; exact H) | exact H
                  have Ny151 := Aside0.mk hy151
                  clear hy151
                  by_cases c26 : x5_6 = (a0.size : Int)
                  · rw [if_pos c26] at H
                    have c26b0 : (x5_6 == (a0.size : Int)) = true := beq_iff_eq.mpr c26
                    have c26b1 : (x5_6 != (a0.size : Int)) = false := bne_eq_false_iff_eq.mpr c26
                    clear c26
                    simp only [Option.some.injEq, Prod.mk.injEq] at H
                    obtain ⟨rfl, rfl⟩ := H
                    go_wp2_with (first | ((with_reducible refine gate_builtin (b := .append) (xs := #[.tmp 59, .tmp 61]) rfl ?_); at_builtin; refine Kd.R_append Kd.string (w0 := w) w.heap.size rfl (.tmp 59) (.tmp 61) 22 9 (.string ⟨#[]⟩) 16 rfl Tryd.underlying22 info9 rfl (by decide) (by omega) u4 x4_1 x6_6 [.string x6_6] (fun _ => True) (fun _ => False) rfl rfl ?aP (fun _ hk => hk.elim) ?aF ?aO ?aB ?aS ?aL ?_; (case aP => exact rfl); (case aB => exact (by repeat (first | (with_reducible first | exact HB.out | apply below_alloc | apply pw_below_drewN | apply below_drew1) | exact HB.out))); (case aF => exact (fun _ _ => trivial)); (case aO => exact (by (with_reducible repeat (first | apply Kd.R_alloc | apply Kd.R_drewN | apply Kd.R_drew)); exact HO_4.out)); (case aS => exact (below_size (by repeat (first | (with_reducible first | exact HB.out | apply below_alloc | apply pw_below_drewN | apply below_drew1) | exact HB.out)))); (case aL => have := LMc25.out; omega); intro v152 w27 ho hb hg hat; rw [← Ny151.out] at ho; have n0_ := Aside0.mk (hb); have n1_ := Aside0.mk (ho); clear HB; clear HO_4; have HB := n0_; have HO153 := n1_; clear n0_ n1_; clear ho hb hg hat))
                    go_ret2
                    exact ⟨_, by first | rfl | (simp [errW_none, errW_some] <;> rfl) | (simp [*, errW_none, errW_some] <;> rfl), by (with_reducible repeat (first | apply Kd.R_alloc | apply Kd.R_drewN | apply Kd.R_drew)); exact HO153.out, by repeat (first | (with_reducible first | exact HB.out | apply below_alloc | apply pw_below_drewN | apply below_drew1) | exact HB.out)⟩
                  · rw [if_neg c26] at H
                    have c26b0 : (x5_6 == (a0.size : Int)) = false := beq_eq_false_iff_ne.mpr c26
                    have c26b1 : (x5_6 != (a0.size : Int)) = true := bne_iff_ne.mpr c26
                    by_cases c28 : 0 ≤ x5_6
                    · rw [if_pos c28] at H
                      have c28b0 : decide (0 ≤ x5_6) = true := decide_eq_true c28
                      clear c28
                      by_cases c29 : x5_6 < (a0.size : Int)
                      · rw [if_pos c29] at H
                        have c29b0 : decide (x5_6 < (a0.size : Int)) = true := decide_eq_true c29
                        clear c29
                        by_cases c31 : (bt a0 x5_6) = 32
                        · rw [if_pos c31] at H
                          have c31b0 : ((bt a0 x5_6) == 32) = true := beq_iff_eq.mpr c31
                          have c31b1 : ((bt a0 x5_6) != 32) = false := bne_eq_false_iff_eq.mpr c31
                          clear c31
                          have H' := Aside0.mk H
                          clear H
                          go_wp2_with (first | ((with_reducible refine gate_builtin (b := .append) (xs := #[.tmp 59, .tmp 61]) rfl ?_); at_builtin; refine Kd.R_append Kd.string (w0 := w) w.heap.size rfl (.tmp 59) (.tmp 61) 22 9 (.string ⟨#[]⟩) 16 rfl Tryd.underlying22 info9 rfl (by decide) (by omega) u4 x4_1 x6_6 [.string x6_6] (fun _ => True) (fun _ => False) rfl rfl ?aP (fun _ hk => hk.elim) ?aF ?aO ?aB ?aS ?aL ?_; (case aP => exact rfl); (case aB => exact (by repeat (first | (with_reducible first | exact HB.out | apply below_alloc | apply pw_below_drewN | apply below_drew1) | exact HB.out))); (case aF => exact (fun _ _ => trivial)); (case aO => exact (by (with_reducible repeat (first | apply Kd.R_alloc | apply Kd.R_drewN | apply Kd.R_drew)); exact HO_4.out)); (case aS => exact (below_size (by repeat (first | (with_reducible first | exact HB.out | apply below_alloc | apply pw_below_drewN | apply below_drew1) | exact HB.out)))); (case aL => have := LMc25.out; omega); intro v152 w32 ho hb hg hat; rw [← Ny151.out] at ho; have n0_ := Aside0.mk (hb); have n1_ := Aside0.mk (ho); clear HB; clear HO_4; have HB := n0_; have HO153 := n1_; clear n0_ n1_; clear ho hb hg hat; have p30 : 0 ≤ (x5_6 : Int) := of_decide_eq_true (by first | (with_reducible assumption) | assumption); have q30 : x5_6 < (a0.size : Int) := of_decide_eq_true (by first | (with_reducible assumption) | assumption); have hx30 := bt_at a0 x5_6; replace p30 := eq_true p30; replace q30 := eq_true q30))
                          go_roundg kj6
                          case measure => have := HK1.out; have := HJ2.out; have := HJ6.out; omega
                          case rel => exact ⟨(y151), (wrap64 (x5_6 + 1)), (by first | rfl | (simp; done) | (simp [*]; done)), H', ⟨by have := HK1.out; have := HJ2.out; have := HJ6.out; omega⟩, ⟨by (with_reducible repeat (first | apply Kd.R_alloc | apply Kd.R_drewN | apply Kd.R_drew)); exact HO153.out⟩, ⟨by repeat (first | (with_reducible first | exact HB.out | apply below_alloc | apply pw_below_drewN | apply below_drew1) | exact HB.out)⟩⟩
                        · rw [if_neg c31] at H
                          have c31b0 : ((bt a0 x5_6) == 32) = false := beq_eq_false_iff_ne.mpr c31
                          have c31b1 : ((bt a0 x5_6) != 32) = true := bne_iff_ne.mpr c31
                          simp only [Option.some.injEq, Prod.mk.injEq] at H
                          obtain ⟨rfl, rfl⟩ := H
                          go_wp2_with (first | ((with_reducible refine gate_builtin (b := .append) (xs := #[.tmp 59, .tmp 61]) rfl ?_); at_builtin; refine Kd.R_append Kd.string (w0 := w) w.heap.size rfl (.tmp 59) (.tmp 61) 22 9 (.string ⟨#[]⟩) 16 rfl Tryd.underlying22 info9 rfl (by decide) (by omega) u4 x4_1 x6_6 [.string x6_6] (fun _ => True) (fun _ => False) rfl rfl ?aP (fun _ hk => hk.elim) ?aF ?aO ?aB ?aS ?aL ?_; (case aP => exact rfl); (case aB => exact (by repeat (first | (with_reducible first | exact HB.out | apply below_alloc | apply pw_below_drewN | apply below_drew1) | exact HB.out))); (case aF => exact (fun _ _ => trivial)); (case aO => exact (by (with_reducible repeat (first | apply Kd.R_alloc | apply Kd.R_drewN | apply Kd.R_drew)); exact HO_4.out)); (case aS => exact (below_size (by repeat (first | (with_reducible first | exact HB.out | apply below_alloc | apply pw_below_drewN | apply below_drew1) | exact HB.out)))); (case aL => have := LMc25.out; omega); intro v152 w33 ho hb hg hat; rw [← Ny151.out] at ho; have n0_ := Aside0.mk (hb); have n1_ := Aside0.mk (ho); clear HB; clear HO_4; have HB := n0_; have HO153 := n1_; clear n0_ n1_; clear ho hb hg hat; have p30 : 0 ≤ (x5_6 : Int) := of_decide_eq_true (by first | (with_reducible assumption) | assumption); have q30 : x5_6 < (a0.size : Int) := of_decide_eq_true (by first | (with_reducible assumption) | assumption); have hx30 := bt_at a0 x5_6; replace p30 := eq_true p30; replace q30 := eq_true q30))
                          go_ret2
                          exact ⟨_, by first | rfl | (simp [errW_none, errW_some] <;> rfl) | (simp [*, errW_none, errW_some] <;> rfl), by first | exact Kd.R_nil _ _ _ _ _ | exact Kd.N_nil _ _ _ _ _ | exact Kd.V_nil _ _ _ _ _ | exact Kd.Q_nil _ _ _ _ _ | exact Kd.S_nil _ _ _ _ _, by repeat (first | (with_reducible first | exact HB.out | apply below_alloc | apply pw_below_drewN | apply below_drew1) | exact HB.out)⟩
                      · rw [if_neg c29] at H
                        exact absurd H (by simp)
                    · rw [if_neg c28] at H
                      exact absurd H (by simp)
                · rw [if_neg c25] at H
                  exact absurd H (by simp)
def cachepotlaw25_alive.f (k : Nat)  : Option (Bool) := (word_Split.f k (⟨#[97, 32, 34, 98, 32, 99, 34]⟩ : ByteArray)).bind fun bt154 => ((word_Split.f k (⟨#[97, 32, 32, 98]⟩ : ByteArray)).bind fun bt158 => (if bt154.2 = 0 then (if (bt154.1.length : Int) = 2 then (if 1 < (bt154.1.length : Int) then (if (rdOf ByteArray.empty bt154.1 1).toList = ([98, 32, 99] : List UInt8) then (if bt158.2 = 2 then ((word_Quote.f (⟨#[255]⟩ : ByteArray)).bind fun t163 => (some (t163.toList == ([34, 92, 102, 102, 34] : List UInt8)))) else (some false)) else (some false)) else (none)) else (some false)) else (some false)))
def cachepotbook_SameTexts.l0 : Nat → List ByteArray → List ByteArray → Int → Option (Bool)
  | 0, _, _, _ => none
  | k + 1, x0, x1, x5 => if x5 < (x0.length : Int) then (if 0 ≤ x5 then (if x5 < (x1.length : Int) then (if (rdOf ByteArray.empty x0 x5).toList = (rdOf ByteArray.empty x1 x5).toList then (cachepotbook_SameTexts.l0 k x0 x1 (wrap64 (x5 + 1))) else (some false)) else (none)) else (none)) else (some true)
def cachepotbook_SameTexts.f (k : Nat) (l0 : List ByteArray) (l1 : List ByteArray) : Option (Bool) := if (l0.length : Int) = (l1.length : Int) then (cachepotbook_SameTexts.l0 k l0 l1 0) else (some false)
def cachepotlaw25_WordSplits.f (k : Nat) (a0 : ByteArray) : Option (Bool) := (word_Split.f k a0).bind fun bt166 => ((cachepotref3_Split.f k a0).bind fun bt170 => ((cachepotlaw25_alive.f k).bind fun t174 => (if t174 = true then (if bt166.2 = bt170.2 then ((cachepotbook_SameTexts.f k bt166.1 bt170.1).bind fun t175 => (some t175)) else (some false)) else (some false))))
end Go.Proofs.YtfaelejeihmgcaaDoor.Wd
end

section
namespace Go.Proofs.YtfaelejeihmgcaaDoor.Stp
open Go.RowKit Go.Proofs.YtfaelejeihmgcaaDoorW.PrintWords Go.Proofs.YtfaelejeihmgcaaDoorW.PrintLast
def refResO (r : OpV × Bool) : OpV × Int := if r.2 = true then (r.1, 0) else (zeroOp 0, 2)
def refParseO (l : List ByteArray) (e : Int) : OpV × Int := if e = 0 then refResO (refStepF l) else (zeroOp 0, e)
set_option maxHeartbeats 16000000 in
set_option maxRecDepth 100000 in
theorem ref_Parse_walk (kf : Nat) (s : ByteArray) (l : List ByteArray) (e : Int) (w : World) (hsp : Wd.cachepotref3_Split.f kf s = some (l, e)) (hl : l.length ≤ 1048576) (hs : ∀ x ∈ l, x.size ≤ 1099511627776) (hT : TabsR w)
    (hnum : ∀ x ∈ l, cachepotref3_number.f 100 x = some (numberT x)) (hnums : cachepotref3_numbers.f (l.tail.length + 200) l.tail = some (numbersT l.tail)) :
    Calls Tryd.prog 43 #[.string s] w (Parsed w (refParseO l e)) := by
  obtain ⟨R, hR⟩ : ∃ R, R = refParseO l e := ⟨_, rfl⟩
  rw [← hR]
  have HR := Lib.hid hR
  have HSP := Lib.hid hsp
  have hz := heap_alloc_new w (.cells (opC (zeroOp 0) nilV nilV) 61)
  have hb1 := below_alloc (Below.refl _ w) (.cells (opC (zeroOp 0) nilV nilV) 61)
  have hlt1 : w.heap.size < (w.alloc (.cells (opC (zeroOp 0) nilV nilV) 61)).heap.size := by simp
  have hst := fun (A : Option Addr) (c : Nat) (W : World) (h1 : Kd.C Kd.string W A l.length l) (h2 : l.length ≤ c) (h3 : TabsR W) => ref_step_walk A c l W h1 h2 hl hs h3 hnum hnums
  clear hR hsp hs hnum hnums
  go_enter Tryd.func43, Tryd.ntmps43
  go_wp2_with fail
  change Calls Tryd.prog 20 _ (w.alloc (.cells (opC (zeroOp 0) nilV nilV) 61)) _
  generalize w.alloc (.cells (opC (zeroOp 0) nilV nilV) 61) = w1 at hz hb1 hlt1 ⊢
  refine (Wd.cachepotref3_Split.calls kf s l e w1 HSP.out).mono ?_
  rintro en w2 ⟨v, rfl, hRl, hb2⟩
  obtain ⟨A, c, ev⟩ := Kd.R_slice hRl
  subst ev
  have hz2 := (hb2.block w.heap.size hlt1).trans hz
  have hbw := below_then hb1 hb1.size hb2
  by_cases he : e = 0
  rotate_left
  · have hRe : R = (zeroOp 0, e) := by rw [HR.out, refParseO, if_neg he]
    have HRe := Lib.hid hRe
    have t1 : (e != 0) = true := bne_iff_ne.2 he
    clear he hRe hRl hst
    obtain ⟨r0, r1, r2, r3, r4, r5, r6, r7, r8, r9⟩ := cells10 hz2
    obtain ⟨rf0, rf1, rf2, rf3, rf4, rf5, rf6, rf7, rf8, rf9⟩ := frozen10 hz2
    go_wp2
    clear r0 r1 r2 r3 r4 r5 r6 r7 r8 r9 rf0 rf1 rf2 rf3 rf4 rf5 rf6 rf7 rf8 rf9
    have hz9 := put10 hz2 (.int .i64 0) (.int .i64 0) (.string ⟨#[]⟩) (.string ⟨#[]⟩) (.slice none 0 0) (.int .i64 0) (.slice none 0 0) (.int .i64 0) (.int .i64 0) (.int .i64 0)
    have hg9 := grown10 w2 w.heap.size (.int .i64 0) (.int .i64 0) (.string ⟨#[]⟩) (.string ⟨#[]⟩) (.slice none 0 0) (.int .i64 0) (.slice none 0 0) (.int .i64 0) (.int .i64 0) (.int .i64 0)
    generalize ((((((((((w2.setCell ⟨w.heap.size, 0, none⟩ (.int .i64 0)).setCell ⟨w.heap.size, 1, none⟩ (.int .i64 0)).setCell ⟨w.heap.size, 2, none⟩ (.string ⟨#[]⟩)).setCell ⟨w.heap.size, 3, none⟩ (.string ⟨#[]⟩)).setCell ⟨w.heap.size, 4, none⟩ (.slice none 0 0)).setCell ⟨w.heap.size, 5, none⟩ (.int .i64 0)).setCell ⟨w.heap.size, 6, none⟩ (.slice none 0 0)).setCell ⟨w.heap.size, 7, none⟩ (.int .i64 0)).setCell ⟨w.heap.size, 8, none⟩ (.int .i64 0)).setCell ⟨w.heap.size, 9, none⟩ (.int .i64 0)) = w9 at hz9 hg9 ⊢
    obtain ⟨s0, s1, s2, s3, s4, s5, s6, s7, s8, s9⟩ := cells10 hz9
    have hb9 := pw_below_grown hbw _ hbw.size hg9 (fun k e => by cases e; exact Nat.le_refl _)
    refine bodyPost_ret (v := .tuple #[.agg #[.int .i64 0, .int .i64 0, .string ⟨#[]⟩, .string ⟨#[]⟩, .slice none 0 0, .int .i64 0, .slice none 0 0, .int .i64 0, .int .i64 0, .int .i64 0], .int .i64 e]) (by simp [results, Tryd.results43, go_sem, s0, s1, s2, s3, s4, s5, s6, s7, s8, s9]) rfl ?_
    exact ⟨.slice none 0 0, .slice none 0 0, by rw [HRe.out]; rfl, by rw [HRe.out]; exact Kd.R_nil _ _ _ _ _, by rw [HRe.out]; exact Kd.R_nil _ _ _ _ _, hb9⟩
  · subst he
    obtain ⟨⟨o, ok⟩, ho⟩ : ∃ r, refStepF l = r := ⟨_, rfl⟩
    have hRe : R = refResO (o, ok) := by rw [HR.out, refParseO, if_pos rfl, ho]
    have HRe := Lib.hid hRe
    have hRd := Kd.R_reads' hRl
    have hstep := hst A c w2 hRd.2.2 hRd.2.1 (hT.below hbw)
    rw [ho] at hstep
    obtain ⟨m1, hm1⟩ : ∃ m1, l.length = m1 := ⟨_, rfl⟩
    rw [hm1] at hstep ⊢
    clear hRe HR ho hst hRd hRl hm1 hl
    go_wp2_with fail
    refine hstep.mono ?_
    rintro en w3 ⟨vk, vm, rfl, hRk, hRm, hb3⟩
    obtain ⟨Ak, ck, ek⟩ := Kd.R_slice hRk
    subst ek
    obtain ⟨Am, cm, em⟩ := Kd.R_slice hRm
    subst em
    have hz3 := (hb3.block w.heap.size (Nat.lt_of_lt_of_le hlt1 hb2.size)).trans hz2
    have hbx := below_then hbw hbw.size hb3
    clear hstep
    unfold opC
    go_upto_region 5 with (fail)
    change Code.wp _ _ _ _ (w3.alloc (.cells (opC o (.slice Ak o.keys.length ck) (.slice Am o.mask.length cm)) 61))
    obtain ⟨O, hO⟩ : ∃ O : Obj, O = .cells (opC o (.slice Ak o.keys.length ck) (.slice Am o.mask.length cm)) 61 := ⟨_, rfl⟩
    rw [← hO]
    have hop : (w3.alloc O).heap[w3.heap.size]? = some (.cells #[.int .i64 o.kind, .int .i64 o.s, .string o.key, .string o.val, .slice Ak o.keys.length ck, .int .i64 o.n, .slice Am o.mask.length cm, .int .i64 o.page, .int .i64 o.at_, .int .i64 o.x] 61) := (heap_alloc_new w3 O).trans (by rw [hO]; rfl)
    have hz4 := (Lib.alloc_old w3 O _ (Array.getElem?_eq_some_iff.1 hz3).1).trans hz3
    have hb4 := below_alloc hbx O
    have hwlt : w.heap.size < w2.heap.size := Nat.lt_of_lt_of_le hlt1 hb2.size
    have hk4 := Kd.R_alloc (Kd.R_mono (Kd.R_bound hRk) (fun q hq => (hq.2.2.1 : q < w3.heap.size))) O
    have hm4 := Kd.R_alloc (Kd.R_mono (Kd.R_bound hRm) (fun q hq => (hq.2.2.1 : q < w3.heap.size))) O
    clear hO hRk hRm hz3 hb3 hbx
    generalize w3.alloc O = w4 at hop hz4 hb4 hk4 hm4 ⊢
    cases ok
    · have hRn : R = (zeroOp 0, 2) := by rw [HRe.out]; rfl
      replace HRe := Lib.hid hRn
      clear hRn
      obtain ⟨r0, r1, r2, r3, r4, r5, r6, r7, r8, r9⟩ := cells10 hz4
      obtain ⟨rf0, rf1, rf2, rf3, rf4, rf5, rf6, rf7, rf8, rf9⟩ := frozen10 hz4
      go_wp2
      clear r0 r1 r2 r3 r4 r5 r6 r7 r8 r9 rf0 rf1 rf2 rf3 rf4 rf5 rf6 rf7 rf8 rf9
      have hz9 := put10 hz4 (.int .i64 0) (.int .i64 0) (.string ⟨#[]⟩) (.string ⟨#[]⟩) (.slice none 0 0) (.int .i64 0) (.slice none 0 0) (.int .i64 0) (.int .i64 0) (.int .i64 0)
      have hg9 := grown10 w4 w.heap.size (.int .i64 0) (.int .i64 0) (.string ⟨#[]⟩) (.string ⟨#[]⟩) (.slice none 0 0) (.int .i64 0) (.slice none 0 0) (.int .i64 0) (.int .i64 0) (.int .i64 0)
      generalize ((((((((((w4.setCell ⟨w.heap.size, 0, none⟩ (.int .i64 0)).setCell ⟨w.heap.size, 1, none⟩ (.int .i64 0)).setCell ⟨w.heap.size, 2, none⟩ (.string ⟨#[]⟩)).setCell ⟨w.heap.size, 3, none⟩ (.string ⟨#[]⟩)).setCell ⟨w.heap.size, 4, none⟩ (.slice none 0 0)).setCell ⟨w.heap.size, 5, none⟩ (.int .i64 0)).setCell ⟨w.heap.size, 6, none⟩ (.slice none 0 0)).setCell ⟨w.heap.size, 7, none⟩ (.int .i64 0)).setCell ⟨w.heap.size, 8, none⟩ (.int .i64 0)).setCell ⟨w.heap.size, 9, none⟩ (.int .i64 0)) = w9 at hz9 hg9 ⊢
      obtain ⟨s0, s1, s2, s3, s4, s5, s6, s7, s8, s9⟩ := cells10 hz9
      have hb9 := pw_below_grown hb4 _ hb4.size hg9 (fun k e => by cases e; exact Nat.le_refl _)
      refine bodyPost_ret (v := .tuple #[.agg #[.int .i64 0, .int .i64 0, .string ⟨#[]⟩, .string ⟨#[]⟩, .slice none 0 0, .int .i64 0, .slice none 0 0, .int .i64 0, .int .i64 0, .int .i64 0], .int .i64 2]) (by simp [results, Tryd.results43, go_sem, s0, s1, s2, s3, s4, s5, s6, s7, s8, s9]) rfl ?_
      exact ⟨.slice none 0 0, .slice none 0 0, by rw [HRe.out]; rfl, by rw [HRe.out]; exact Kd.R_nil _ _ _ _ _, by rw [HRe.out]; exact Kd.R_nil _ _ _ _ _, hb9⟩
    · have hRn : R = (o, 0) := by rw [HRe.out]; rfl
      replace HRe := Lib.hid hRn
      clear hRn
      obtain ⟨r0, r1, r2, r3, r4, r5, r6, r7, r8, r9⟩ := cells10 hz4
      obtain ⟨rf0, rf1, rf2, rf3, rf4, rf5, rf6, rf7, rf8, rf9⟩ := frozen10 hz4
      obtain ⟨p0, p1, p2, p3, p4, p5, p6, p7, p8, p9⟩ := cells10 hop
      go_wp2
      clear r0 r1 r2 r3 r4 r5 r6 r7 r8 r9 rf0 rf1 rf2 rf3 rf4 rf5 rf6 rf7 rf8 rf9
      clear p0 p1 p2 p3 p4 p5 p6 p7 p8 p9
      have hz9 := put10 hz4 (.int .i64 o.kind) (.int .i64 o.s) (.string o.key) (.string o.val) (.slice Ak o.keys.length ck) (.int .i64 o.n) (.slice Am o.mask.length cm) (.int .i64 o.page) (.int .i64 o.at_) (.int .i64 o.x)
      have hg9 := grown10 w4 w.heap.size (.int .i64 o.kind) (.int .i64 o.s) (.string o.key) (.string o.val) (.slice Ak o.keys.length ck) (.int .i64 o.n) (.slice Am o.mask.length cm) (.int .i64 o.page) (.int .i64 o.at_) (.int .i64 o.x)
      have hk9 := Kd.R_grown (Kd.R_mono (Kd.R_bound hk4) (fun q hq => (hq.2.1 : w2.heap.size ≤ q))) hg9 (fun q hq e => by have := Option.some.inj e; have : w2.heap.size ≤ q := hq; omega)
      have hm9 := Kd.R_grown (Kd.R_mono (Kd.R_bound hm4) (fun q hq => (hq.2.1 : w2.heap.size ≤ q))) hg9 (fun q hq e => by have := Option.some.inj e; have : w2.heap.size ≤ q := hq; omega)
      generalize ((((((((((w4.setCell ⟨w.heap.size, 0, none⟩ (.int .i64 o.kind)).setCell ⟨w.heap.size, 1, none⟩ (.int .i64 o.s)).setCell ⟨w.heap.size, 2, none⟩ (.string o.key)).setCell ⟨w.heap.size, 3, none⟩ (.string o.val)).setCell ⟨w.heap.size, 4, none⟩ (.slice Ak o.keys.length ck)).setCell ⟨w.heap.size, 5, none⟩ (.int .i64 o.n)).setCell ⟨w.heap.size, 6, none⟩ (.slice Am o.mask.length cm)).setCell ⟨w.heap.size, 7, none⟩ (.int .i64 o.page)).setCell ⟨w.heap.size, 8, none⟩ (.int .i64 o.at_)).setCell ⟨w.heap.size, 9, none⟩ (.int .i64 o.x)) = w9 at hz9 hg9 hk9 hm9 ⊢
      obtain ⟨s0, s1, s2, s3, s4, s5, s6, s7, s8, s9⟩ := cells10 hz9
      have hb9 := pw_below_grown hb4 _ hb4.size hg9 (fun k e => by cases e; exact Nat.le_refl _)
      refine bodyPost_ret (v := .tuple #[.agg #[.int .i64 o.kind, .int .i64 o.s, .string o.key, .string o.val, .slice Ak o.keys.length ck, .int .i64 o.n, .slice Am o.mask.length cm, .int .i64 o.page, .int .i64 o.at_, .int .i64 o.x], .int .i64 0]) (by simp [results, Tryd.results43, go_sem, s0, s1, s2, s3, s4, s5, s6, s7, s8, s9]) rfl ?_
      exact ⟨.slice Ak o.keys.length ck, .slice Am o.mask.length cm, by rw [HRe.out]; rfl, by rw [HRe.out]; exact Kd.R_lower (Kd.R_mono hk9 (fun _ _ => trivial)) (Nat.le_of_lt hwlt), by rw [HRe.out]; exact Kd.R_lower (Kd.R_mono hm9 (fun _ _ => trivial)) (Nat.le_of_lt hwlt), hb9⟩
end Go.Proofs.YtfaelejeihmgcaaDoor.Stp
end

section
namespace Go.Proofs.YtfaelejeihmgcaaDoor.Stp
open Go.RowKit Go.Proofs.YtfaelejeihmgcaaDoorW.PrintWords
def refBody (k : Nat) (t : List ByteArray) : OpV × Bool :=
  if k = 1 ∨ k = 7 ∨ k = 10 ∨ k = 14 then (zeroOp k, decide (t.length = 0))
  else if k = 8 ∨ k = 9 then (if t.length = 1 then ({ zeroOp k with key := t.headD ⟨#[]⟩ }, true) else (zeroOp 0, false))
  else if k = 12 then ({ zeroOp k with mask := (numbersT t).1 }, (numbersT t).2)
  else if k = 13 then (if (numbersT t).2 = true ∧ (numbersT t).1.length = 3 ∧ 0 ≤ (numbersT t).1.getD 2 0 ∧ (numbersT t).1.getD 2 0 ≤ 255 then ({ zeroOp k with page := (numbersT t).1.getD 0 0, at_ := (numbersT t).1.getD 1 0, x := (numbersT t).1.getD 2 0 }, true) else (zeroOp 0, false))
  else if k = 11 then (if (numbersT t).2 = true ∧ (numbersT t).1.length = 1 then ({ zeroOp k with n := (numbersT t).1.getD 0 0 }, true) else (zeroOp 0, false))
  else if k = 2 ∨ k = 3 ∨ k = 4 ∨ k = 5 ∨ k = 6 then
    (if t.length = 0 then (zeroOp 0, false) else
      if k = 2 then (if (numberT (t.headD ⟨#[]⟩)).2 = true ∧ t.tail.length = 2 then ({ zeroOp k with s := (numberT (t.headD ⟨#[]⟩)).1, key := t.tail.headD ⟨#[]⟩, val := t.tail.tail.headD ⟨#[]⟩ }, true) else (zeroOp 0, false))
      else if k = 3 then (if (numberT (t.headD ⟨#[]⟩)).2 = true ∧ t.tail.length = 1 then ({ zeroOp k with s := (numberT (t.headD ⟨#[]⟩)).1, key := t.tail.headD ⟨#[]⟩ }, true) else (zeroOp 0, false))
      else if k = 4 then ({ zeroOp k with s := (numberT (t.headD ⟨#[]⟩)).1, keys := t.tail }, (numberT (t.headD ⟨#[]⟩)).2)
      else ({ zeroOp k with s := (numberT (t.headD ⟨#[]⟩)).1 }, (numberT (t.headD ⟨#[]⟩)).2 && decide (t.tail.length = 0)))
  else (zeroOp 0, false)
theorem ref_body (x : ByteArray) (t : List ByteArray) (k : Nat) (hk : refK x 15 = k) : refStepF (x :: t) = refBody k t := by
  rw [refStepF, if_neg (by simp)]
  show refBody (refK x 15) t = _
  rw [hk]
theorem fl1 : (nameT ((1 : Nat) : Int)).2.data.toList = [] := by decide +kernel
theorem fl2 : (nameT ((2 : Nat) : Int)).2.data.toList = [115, 107, 118] := by decide +kernel
theorem fl3 : (nameT ((3 : Nat) : Int)).2.data.toList = [115, 107] := by decide +kernel
theorem fl4 : (nameT ((4 : Nat) : Int)).2.data.toList = [115, 75] := by decide +kernel
theorem fl5 : (nameT ((5 : Nat) : Int)).2.data.toList = [115] := by decide +kernel
theorem fl6 : (nameT ((6 : Nat) : Int)).2.data.toList = [115] := by decide +kernel
theorem fl7 : (nameT ((7 : Nat) : Int)).2.data.toList = [] := by decide +kernel
theorem fl8 : (nameT ((8 : Nat) : Int)).2.data.toList = [107] := by decide +kernel
theorem fl9 : (nameT ((9 : Nat) : Int)).2.data.toList = [107] := by decide +kernel
theorem fl10 : (nameT ((10 : Nat) : Int)).2.data.toList = [] := by decide +kernel
theorem fl11 : (nameT ((11 : Nat) : Int)).2.data.toList = [110] := by decide +kernel
theorem fl12 : (nameT ((12 : Nat) : Int)).2.data.toList = [77] := by decide +kernel
theorem fl13 : (nameT ((13 : Nat) : Int)).2.data.toList = [112, 97, 120] := by decide +kernel
theorem fl14 : (nameT ((14 : Nat) : Int)).2.data.toList = [] := by decide +kernel
theorem nums_len : ∀ (l : List ByteArray) (out : List Int), (numsT l out).2 = true → (numsT l out).1.length = out.length + l.length
  | [], out, _ => rfl
  | x :: l, out, h => by
    rw [numsT] at h ⊢
    by_cases hq : (numT x).2 = true
    · rw [if_pos hq] at h ⊢
      rw [nums_len l _ h]
      simp only [List.length_append, List.length_cons, List.length_nil]
      omega
    · rw [if_neg hq] at h
      cases h
theorem k_none (x : ByteArray) (t : List ByteArray) (j : Nat) (hj : j = 1 ∨ j = 7 ∨ j = 10 ∨ j = 14) (hk : refK x 15 = j) (hf : (nameT (j : Int)).2.data.toList = []) : resO (resK t j) = refResO (refStepF (x :: t)) := by
  have e : refStepF (x :: t) = (zeroOp (j : Int), decide (t.length = 0)) := by
    rw [ref_body x t _ hk, refBody]
    rw [if_pos hj]
  rw [e, resK, hf, fill_nil]
  unfold refResO
  simp only
  cases decide (t.length = 0) <;> rfl
theorem fill_M (fs : List UInt8) (o : OpV) (l : List ByteArray) : fillF (77 :: fs) o l = ((fillM l []).1, { o with mask := (fillM l []).2 }) := by
  rw [fillF, if_neg (show ¬ ((77 : UInt8).toNat : Int) = 75 by decide), if_pos (show ((77 : UInt8).toNat : Int) = 77 from rfl)]
theorem one_key (o : OpV) (x : ByteArray) : oneF o 107 x = (true, { o with key := x }) := by unfold oneF; rw [if_pos rfl]
theorem one_val (o : OpV) (x : ByteArray) : oneF o 118 x = (true, { o with val := x }) := by unfold oneF; rw [if_neg (by decide), if_pos rfl]
theorem k_key (x : ByteArray) (t : List ByteArray) (j : Nat) (hj : j = 8 ∨ j = 9) (hk : refK x 15 = j) (hf : (nameT (j : Int)).2.data.toList = [107]) : resO (resK t j) = refResO (refStepF (x :: t)) := by
  have e : refStepF (x :: t) = (if t.length = 1 then ({ zeroOp (j : Int) with key := t.headD ⟨#[]⟩ }, true) else (zeroOp 0, false)) := by
    rw [ref_body x t _ hk, refBody]
    rw [if_neg (by omega), if_pos hj]
  rw [e, resK, hf]
  match t with
  | [] => rw [fill_end _ _ _ (by decide) (by decide)]; rfl
  | [y] =>
    rw [fill_one _ _ _ _ _ (by decide) (by decide), show ((107 : UInt8).toNat : Int) = 107 from rfl, one_key, if_pos rfl, fill_nil]
    rfl
  | y :: z :: u =>
    rw [fill_one _ _ _ _ _ (by decide) (by decide), show ((107 : UInt8).toNat : Int) = 107 from rfl, one_key, if_pos rfl, fill_nil, if_neg (by simp)]
    rfl
theorem k_s (x : ByteArray) (t : List ByteArray) (j : Nat) (hj : j = 5 ∨ j = 6) (hk : refK x 15 = j) (hf : (nameT (j : Int)).2.data.toList = [115]) (hN : ∀ y ∈ t, numberT y = numT y) : resO (resK t j) = refResO (refStepF (x :: t)) := by
  have e : refStepF (x :: t) = (if t.length = 0 then (zeroOp 0, false) else ({ zeroOp (j : Int) with s := (numberT (t.headD ⟨#[]⟩)).1 }, (numberT (t.headD ⟨#[]⟩)).2 && decide (t.tail.length = 0))) := by
    rw [ref_body x t _ hk, refBody]
    rw [if_neg (by omega), if_neg (by omega), if_neg (by omega), if_neg (by omega), if_neg (by omega), if_pos (by omega), if_neg (show ¬ j = 2 by omega), if_neg (show ¬ j = 3 by omega), if_neg (show ¬ j = 4 by omega)]
  rw [e, resK, hf]
  match t, hN with
  | [], _ => rw [fill_end _ _ _ (by decide) (by decide)]; rfl
  | y :: u, hN =>
    rw [fill_one _ _ _ _ _ (by decide) (by decide), show ((115 : UInt8).toNat : Int) = 115 from rfl, one_num _ _ _ (by decide) (by decide) (by decide), if_neg (show ¬ (y :: u).length = 0 by simp)]
    simp only [List.headD_cons, List.tail_cons, hN y (by simp)]
    cases hn : (numT y).2
    · rfl
    · rw [if_pos rfl, fill_nil]
      cases u with
      | nil => rfl
      | cons z v => rfl
theorem k_sk (x : ByteArray) (t : List ByteArray) (hk : refK x 15 = 3) (hN : ∀ y ∈ t, numberT y = numT y) : resO (resK t 3) = refResO (refStepF (x :: t)) := by
  have e : refStepF (x :: t) = (if t.length = 0 then (zeroOp 0, false) else (if (numberT (t.headD ⟨#[]⟩)).2 = true ∧ t.tail.length = 1 then ({ zeroOp ((3 : Nat) : Int) with s := (numberT (t.headD ⟨#[]⟩)).1, key := t.tail.headD ⟨#[]⟩ }, true) else (zeroOp 0, false))) := by
    rw [ref_body x t _ hk, refBody]
    rw [if_neg (by omega), if_neg (by omega), if_neg (by omega), if_neg (by omega), if_neg (by omega), if_pos (by omega), if_neg (show ¬ (3 : Nat) = 2 by omega), if_pos rfl]
  rw [e, resK, fl3]
  match t, hN with
  | [], _ => rw [fill_end _ _ _ (by decide) (by decide)]; rfl
  | y :: u, hN =>
    rw [fill_one _ _ _ _ _ (by decide) (by decide), show ((115 : UInt8).toNat : Int) = 115 from rfl, one_num _ _ _ (by decide) (by decide) (by decide), if_neg (show ¬ (y :: u).length = 0 by simp)]
    simp only [List.headD_cons, List.tail_cons, hN y (by simp)]
    cases hn : (numT y).2
    · rfl
    · rw [if_pos rfl]
      cases u with
      | nil => rw [fill_end _ _ _ (by decide) (by decide)]; rfl
      | cons z v =>
        rw [fill_one _ _ _ _ _ (by decide) (by decide), show ((107 : UInt8).toNat : Int) = 107 from rfl, one_key, if_pos rfl, fill_nil]
        cases v with
        | nil => rfl
        | cons a b => rw [if_neg (show ¬ (true = true ∧ (z :: a :: b).length = 1) by simp)]; rfl
theorem k_skv (x : ByteArray) (t : List ByteArray) (hk : refK x 15 = 2) (hN : ∀ y ∈ t, numberT y = numT y) : resO (resK t 2) = refResO (refStepF (x :: t)) := by
  have e : refStepF (x :: t) = (if t.length = 0 then (zeroOp 0, false) else (if (numberT (t.headD ⟨#[]⟩)).2 = true ∧ t.tail.length = 2 then ({ zeroOp ((2 : Nat) : Int) with s := (numberT (t.headD ⟨#[]⟩)).1, key := t.tail.headD ⟨#[]⟩, val := t.tail.tail.headD ⟨#[]⟩ }, true) else (zeroOp 0, false))) := by
    rw [ref_body x t _ hk, refBody]
    rw [if_neg (by omega), if_neg (by omega), if_neg (by omega), if_neg (by omega), if_neg (by omega), if_pos (by omega), if_pos rfl]
  rw [e, resK, fl2]
  match t, hN with
  | [], _ => rw [fill_end _ _ _ (by decide) (by decide)]; rfl
  | y :: u, hN =>
    rw [fill_one _ _ _ _ _ (by decide) (by decide), show ((115 : UInt8).toNat : Int) = 115 from rfl, one_num _ _ _ (by decide) (by decide) (by decide), if_neg (show ¬ (y :: u).length = 0 by simp)]
    simp only [List.headD_cons, List.tail_cons, hN y (by simp)]
    cases hn : (numT y).2
    · rfl
    · rw [if_pos rfl]
      cases u with
      | nil => rw [fill_end _ _ _ (by decide) (by decide)]; rfl
      | cons z v =>
        rw [fill_one _ _ _ _ _ (by decide) (by decide), show ((107 : UInt8).toNat : Int) = 107 from rfl, one_key, if_pos rfl]
        cases v with
        | nil => rw [fill_end _ _ _ (by decide) (by decide)]; rfl
        | cons a b =>
          rw [fill_one _ _ _ _ _ (by decide) (by decide), show ((118 : UInt8).toNat : Int) = 118 from rfl, one_val, if_pos rfl, fill_nil]
          cases b with
          | nil => rfl
          | cons c d => rw [if_neg (show ¬ (true = true ∧ (z :: a :: c :: d).length = 2) by simp)]; rfl
theorem k_sK (x : ByteArray) (t : List ByteArray) (hk : refK x 15 = 4) (hN : ∀ y ∈ t, numberT y = numT y) : resO (resK t 4) = refResO (refStepF (x :: t)) := by
  have e : refStepF (x :: t) = (if t.length = 0 then (zeroOp 0, false) else ({ zeroOp ((4 : Nat) : Int) with s := (numberT (t.headD ⟨#[]⟩)).1, keys := t.tail }, (numberT (t.headD ⟨#[]⟩)).2)) := by
    rw [ref_body x t _ hk, refBody]
    rw [if_neg (by omega), if_neg (by omega), if_neg (by omega), if_neg (by omega), if_neg (by omega), if_pos (by omega), if_neg (show ¬ (4 : Nat) = 2 by omega), if_neg (show ¬ (4 : Nat) = 3 by omega), if_pos rfl]
  rw [e, resK, fl4]
  match t, hN with
  | [], _ => rw [fill_end _ _ _ (by decide) (by decide)]; rfl
  | y :: u, hN =>
    rw [fill_one _ _ _ _ _ (by decide) (by decide), show ((115 : UInt8).toNat : Int) = 115 from rfl, one_num _ _ _ (by decide) (by decide) (by decide), if_neg (show ¬ (y :: u).length = 0 by simp)]
    simp only [List.headD_cons, List.tail_cons, hN y (by simp)]
    cases hn : (numT y).2
    · rfl
    · rw [if_pos rfl, fillF, if_pos rfl]
      rfl
theorem k_M (x : ByteArray) (t : List ByteArray) (hk : refK x 15 = 12) (hNs : numbersT t = numsT t []) : resO (resK t 12) = refResO (refStepF (x :: t)) := by
  have e : refStepF (x :: t) = ({ zeroOp ((12 : Nat) : Int) with mask := (numsT t []).1 }, (numsT t []).2) := by
    rw [ref_body x t _ hk, refBody]
    rw [if_neg (by omega), if_neg (by omega), if_pos rfl, hNs]
  have h := fillM_nums t []
  rw [e, resK, fl12, fill_M, h.1]
  cases hq : (numsT t []).2
  · rfl
  · rw [h.2 hq, if_pos rfl]
    rfl
theorem k_n (x : ByteArray) (t : List ByteArray) (hk : refK x 15 = 11) (hNs : numbersT t = numsT t []) : resO (resK t 11) = refResO (refStepF (x :: t)) := by
  have e : refStepF (x :: t) = (if (numsT t []).2 = true ∧ (numsT t []).1.length = 1 then ({ zeroOp ((11 : Nat) : Int) with n := (numsT t []).1.getD 0 0 }, true) else (zeroOp 0, false)) := by
    rw [ref_body x t _ hk, refBody]
    rw [if_neg (by omega), if_neg (by omega), if_neg (by omega), if_neg (by omega), if_pos rfl, hNs]
  rw [e, resK, fl11]
  match t with
  | [] => rw [fill_end _ _ _ (by decide) (by decide)]; rfl
  | [y] =>
    rw [fill_one _ _ _ _ _ (by decide) (by decide), show ((110 : UInt8).toNat : Int) = 110 from rfl, one_num _ _ _ (by decide) (by decide) (by decide), numsT]
    cases hn : (numT y).2
    · rfl
    · rfl
  | y :: z :: u =>
    have hl := nums_len (y :: z :: u) []
    rw [fill_one _ _ _ _ _ (by decide) (by decide), show ((110 : UInt8).toNat : Int) = 110 from rfl, one_num _ _ _ (by decide) (by decide) (by decide), if_neg (show ¬ ((numsT (y :: z :: u) []).2 = true ∧ (numsT (y :: z :: u) []).1.length = 1) from fun h => by have := hl h.1; simp only [List.length_cons, List.length_nil] at this; omega)]
    cases hn : (numT y).2
    · rfl
    · rfl
theorem fill_num (c : UInt8) (fs : List UInt8) (o : OpV) (y : ByteArray) (u : List ByteArray) (h1 : (c.toNat : Int) ≠ 75) (h2 : (c.toNat : Int) ≠ 77) (h3 : (c.toNat : Int) ≠ 107) (h4 : (c.toNat : Int) ≠ 118) (h5 : (c.toNat : Int) ≠ 120) :
    fillF (c :: fs) o (y :: u) = if (numT y).2 = true then fillF fs (setNum o (c.toNat : Int) (numT y).1) u else (false, o) := by
  rw [fill_one _ _ _ _ _ h1 h2, one_num _ _ _ h3 h4 h5]
  by_cases h : (numT y).2 = true
  · simp only [if_pos h]
    rfl
  · simp only [if_neg h]
    rfl
theorem fill_x (o : OpV) (y : ByteArray) (u : List ByteArray) : fillF [120] o (y :: u) = if (numT y).2 = true ∧ 0 ≤ (numT y).1 ∧ (numT y).1 ≤ 255 then fillF [] { o with x := (numT y).1 } u else (false, o) := by
  rw [fill_one _ _ _ _ _ (by decide) (by decide), show ((120 : UInt8).toNat : Int) = 120 from rfl, one_x]
  by_cases h : (numT y).2 = true ∧ 0 ≤ (numT y).1 ∧ (numT y).1 ≤ 255
  · simp only [if_pos h]
    rfl
  · simp only [if_neg h]
    rfl
theorem k_pax (x : ByteArray) (t : List ByteArray) (hk : refK x 15 = 13) (hNs : numbersT t = numsT t []) : resO (resK t 13) = refResO (refStepF (x :: t)) := by
  have e : refStepF (x :: t) = (if (numsT t []).2 = true ∧ (numsT t []).1.length = 3 ∧ 0 ≤ (numsT t []).1.getD 2 0 ∧ (numsT t []).1.getD 2 0 ≤ 255 then ({ zeroOp ((13 : Nat) : Int) with page := (numsT t []).1.getD 0 0, at_ := (numsT t []).1.getD 1 0, x := (numsT t []).1.getD 2 0 }, true) else (zeroOp 0, false)) := by
    rw [ref_body x t _ hk, refBody]
    rw [if_neg (by omega), if_neg (by omega), if_neg (by omega), if_pos rfl, hNs]
  have hl := nums_len t []
  rw [e, resK, fl13]
  have no : t.length ≠ 3 → refResO (if (numsT t []).2 = true ∧ (numsT t []).1.length = 3 ∧ 0 ≤ (numsT t []).1.getD 2 0 ∧ (numsT t []).1.getD 2 0 ≤ 255 then ({ zeroOp ((13 : Nat) : Int) with page := (numsT t []).1.getD 0 0, at_ := (numsT t []).1.getD 1 0, x := (numsT t []).1.getD 2 0 }, true) else (zeroOp 0, false)) = (zeroOp 0, 2) := fun h => by
    rw [if_neg (fun h2 => h (by have := hl h2.1; rw [h2.2.1] at this; simp only [List.length_nil] at this; omega))]
    rfl
  match t, no with
  | [], no =>
    rw [no (by simp), fill_end _ _ _ (by decide) (by decide)]
    rfl
  | [a], no =>
    rw [no (by simp), fill_num 112 _ _ _ _ (by decide) (by decide) (by decide) (by decide) (by decide), fill_end _ _ _ (by decide) (by decide)]
    cases (numT a).2 <;> rfl
  | [a, b], no =>
    rw [no (by simp), fill_num 112 _ _ _ _ (by decide) (by decide) (by decide) (by decide) (by decide), fill_num 97 _ _ _ _ (by decide) (by decide) (by decide) (by decide) (by decide), fill_end _ _ _ (by decide) (by decide)]
    cases (numT a).2 <;> cases (numT b).2 <;> rfl
  | [a, b, c], _ =>
    rw [fill_num 112 _ _ _ _ (by decide) (by decide) (by decide) (by decide) (by decide), fill_num 97 _ _ _ _ (by decide) (by decide) (by decide) (by decide) (by decide), fill_x, fill_nil]
    by_cases ha : (numT a).2 = true
    · by_cases hb : (numT b).2 = true
      · by_cases hc : (numT c).2 = true
        · have hn : numsT [a, b, c] [] = ([(numT a).1, (numT b).1, (numT c).1], true) := by rw [numsT, if_pos ha, numsT, if_pos hb, numsT, if_pos hc]; rfl
          rw [hn, if_pos ha, if_pos hb]
          by_cases h : 0 ≤ (numT c).1 ∧ (numT c).1 ≤ 255
          · rw [if_pos (show (numT c).2 = true ∧ 0 ≤ (numT c).1 ∧ (numT c).1 ≤ 255 from ⟨hc, h⟩)]
            refine Eq.trans ?_ (congrArg refResO (if_pos (show true = true ∧ [(numT a).1, (numT b).1, (numT c).1].length = 3 ∧ 0 ≤ [(numT a).1, (numT b).1, (numT c).1].getD 2 0 ∧ [(numT a).1, (numT b).1, (numT c).1].getD 2 0 ≤ 255 from ⟨rfl, rfl, h⟩)).symm)
            rfl
          · rw [if_neg (show ¬ ((numT c).2 = true ∧ 0 ≤ (numT c).1 ∧ (numT c).1 ≤ 255) from fun e => h e.2)]
            refine Eq.trans ?_ (congrArg refResO (if_neg (show ¬ (true = true ∧ [(numT a).1, (numT b).1, (numT c).1].length = 3 ∧ 0 ≤ [(numT a).1, (numT b).1, (numT c).1].getD 2 0 ∧ [(numT a).1, (numT b).1, (numT c).1].getD 2 0 ≤ 255) from fun e => h e.2.2)).symm)
            rfl
        · have hn : numsT [a, b, c] [] = ([], false) := by rw [numsT, if_pos ha, numsT, if_pos hb, numsT, if_neg hc]
          rw [hn, if_pos ha, if_pos hb, if_neg (show ¬ ((numT c).2 = true ∧ 0 ≤ (numT c).1 ∧ (numT c).1 ≤ 255) from fun e => hc e.1)]
          rfl
      · have hn : numsT [a, b, c] [] = ([], false) := by rw [numsT, if_pos ha, numsT, if_neg hb]
        rw [hn, if_pos ha, if_neg hb]
        rfl
    · have hn : numsT [a, b, c] [] = ([], false) := by rw [numsT, if_neg ha]
      rw [hn, if_neg ha]
      rfl
  | a :: b :: c :: d :: u, no =>
    rw [no (by simp), fill_num 112 _ _ _ _ (by decide) (by decide) (by decide) (by decide) (by decide), fill_num 97 _ _ _ _ (by decide) (by decide) (by decide) (by decide) (by decide), fill_x, fill_nil]
    by_cases ha : (numT a).2 = true
    · by_cases hb : (numT b).2 = true
      · rw [if_pos ha, if_pos hb]
        by_cases h : (numT c).2 = true ∧ 0 ≤ (numT c).1 ∧ (numT c).1 ≤ 255
        · rw [if_pos h]
          rfl
        · rw [if_neg h]
          rfl
      · rw [if_pos ha, if_neg hb]
        rfl
    · rw [if_neg ha]
      rfl
/-- THE TWO READINGS OF WORDS SAY THE SAME -/
theorem step_same (l : List ByteArray) (hs : ∀ x ∈ l, x.size ≤ 1099511627776) (hl : l.length ≤ 1048576) : resO (parseK l 14 1) = refResO (refStepF l) := by
  cases l with
  | nil => rw [parseK_nil]; rfl
  | cons x t =>
    have hN : ∀ y ∈ t, numberT y = numT y := fun y hy => numberT_eq y (hs y (List.mem_cons_of_mem _ hy))
    have hNs : numbersT t = numsT t [] := numbersT_eq t (fun y hy => hs y (List.mem_cons_of_mem _ hy)) (by simp only [List.length_cons] at hl; omega)
    by_cases h : ∃ j, 1 ≤ j ∧ j < 15 ∧ nameW j = x.toList
    · obtain ⟨j, h1, h2, h3⟩ := h
      have hP := parseK_hit x t j h3 14 1 h1 (by omega) (fun i h4 h5 e => by
        have := words_apart ⟨i, by omega⟩ ⟨j, h2⟩ h4 h1 (e.trans h3.symm)
        have := congrArg Fin.val this
        simp only at this
        omega)
      have hR : refK x 15 = j := refK_hit x j h1 ((words_same ⟨j, h2⟩ h1).symm.trans h3) 15 h2 (fun i h4 h5 e => by
        have := words_apart ⟨i, h5⟩ ⟨j, h2⟩ (by show 1 ≤ i; omega) h1 ((words_same ⟨i, h5⟩ (by show 1 ≤ i; omega)).trans (e.trans h3.symm))
        have := congrArg Fin.val this
        simp only at this
        omega)
      rw [hP]
      rcases (by omega : j = 1 ∨ j = 2 ∨ j = 3 ∨ j = 4 ∨ j = 5 ∨ j = 6 ∨ j = 7 ∨ j = 8 ∨ j = 9 ∨ j = 10 ∨ j = 11 ∨ j = 12 ∨ j = 13 ∨ j = 14) with rfl | rfl | rfl | rfl | rfl | rfl | rfl | rfl | rfl | rfl | rfl | rfl | rfl | rfl
      · exact k_none x t 1 (by decide) hR fl1
      · exact k_skv x t hR hN
      · exact k_sk x t hR hN
      · exact k_sK x t hR hN
      · exact k_s x t 5 (by decide) hR fl5 hN
      · exact k_s x t 6 (by decide) hR fl6 hN
      · exact k_none x t 7 (by decide) hR fl7
      · exact k_key x t 8 (by decide) hR fl8
      · exact k_key x t 9 (by decide) hR fl9
      · exact k_none x t 10 (by decide) hR fl10
      · exact k_n x t hR hNs
      · exact k_M x t hR hNs
      · exact k_pax x t hR hNs
      · exact k_none x t 14 (by decide) hR fl14
    · have hm : ∀ i, 1 ≤ i → i < 15 → nameW i ≠ x.toList := fun i h1 h2 e => h ⟨i, h1, h2, e⟩
      rw [parseK_miss x t 14 1 (fun i h1 h2 => hm i h1 (by omega))]
      have hR : refK x 15 = 0 := refK_miss x 15 (fun i h1 h2 e => hm i h1 h2 ((words_same ⟨i, h2⟩ h1).trans e))
      rw [ref_body x t 0 hR]
      rfl
theorem parse_same (l : List ByteArray) (e : Int) (hs : ∀ x ∈ l, x.size ≤ 1099511627776) (hl : l.length ≤ 1048576) : parseO l e = refParseO l e := by
  unfold parseO refParseO
  rw [step_same l hs hl]
end Go.Proofs.YtfaelejeihmgcaaDoor.Stp
end

section
namespace Go.Proofs.YtfaelejeihmgcaaDoor.Stp
open Go.RowKit Go.Proofs.YtfaelejeihmgcaaDoorW.PrintWords
theorem ints_l0 (l : List Int) (hl : l.length ≤ 1048576) : ∀ (d k i : Nat), l.length - i = d → i ≤ l.length → d < k → cachepotbook_SameInts.l0 k l l (i : Int) = some true := by
  intro d
  induction d with
  | zero =>
    intro k i hd hi hk
    obtain ⟨k, rfl⟩ : ∃ m, k = m + 1 := ⟨k - 1, by omega⟩
    rw [cachepotbook_SameInts.l0, if_neg (by omega)]
  | succ d ih =>
    intro k i hd hi hk
    obtain ⟨k, rfl⟩ : ∃ m, k = m + 1 := ⟨k - 1, by omega⟩
    rw [cachepotbook_SameInts.l0, if_pos (by omega), if_pos (by omega), if_pos (by omega), if_pos rfl, w64 (v := (i : Int) + 1) (by omega) (by omega)]
    exact ih k (i + 1) (by omega) (by omega) (by omega)
theorem ints_same (l : List Int) (hl : l.length ≤ 1048576) (k : Nat) (hk : l.length < k) : cachepotbook_SameInts.f k l l = some true := by
  rw [cachepotbook_SameInts.f, if_pos rfl]
  exact ints_l0 l hl l.length k 0 (by omega) (by omega) hk
theorem texts_l0 (l : List ByteArray) (hl : l.length ≤ 1048576) : ∀ (d k i : Nat), l.length - i = d → i ≤ l.length → d < k → cachepotbook_SameTexts.l0 k l l (i : Int) = some true := by
  intro d
  induction d with
  | zero =>
    intro k i hd hi hk
    obtain ⟨k, rfl⟩ : ∃ m, k = m + 1 := ⟨k - 1, by omega⟩
    rw [cachepotbook_SameTexts.l0, if_neg (by omega)]
  | succ d ih =>
    intro k i hd hi hk
    obtain ⟨k, rfl⟩ : ∃ m, k = m + 1 := ⟨k - 1, by omega⟩
    rw [cachepotbook_SameTexts.l0, if_pos (by omega), if_pos (by omega), if_pos (by omega), if_pos rfl, w64 (v := (i : Int) + 1) (by omega) (by omega)]
    exact ih k (i + 1) (by omega) (by omega) (by omega)
theorem texts_same (l : List ByteArray) (hl : l.length ≤ 1048576) (k : Nat) (hk : l.length < k) : cachepotbook_SameTexts.f k l l = some true := by
  rw [cachepotbook_SameTexts.f, if_pos rfl]
  exact texts_l0 l hl l.length k 0 (by omega) (by omega) hk
theorem op_same (o : OpV) (h1 : o.keys.length ≤ 1048576) (h2 : o.mask.length ≤ 1048576) (k : Nat) (hk : 1048576 < k) :
    cachepotbook_SameOp.f k o.kind o.s o.key o.val o.keys o.n o.mask o.page o.at_ o.x o.kind o.s o.key o.val o.keys o.n o.mask o.page o.at_ o.x = some true := by
  rw [cachepotbook_SameOp.f, if_pos rfl, if_pos rfl, if_pos rfl, if_pos rfl, if_pos rfl, if_pos rfl, if_pos rfl, if_pos rfl, ints_same o.mask h2 k (by omega), Option.bind_some, if_pos rfl, texts_same o.keys h1 k (by omega)]
  rfl
theorem nums_le : ∀ (l : List ByteArray) (out : List Int), (numsT l out).1.length ≤ out.length + l.length
  | [], out => Nat.le_refl _
  | x :: l, out => by
    rw [numsT]
    by_cases hq : (numT x).2 = true
    · rw [if_pos hq]
      have := nums_le l (out ++ [(numT x).1])
      simp only [List.length_append, List.length_cons, List.length_nil] at this ⊢
      omega
    · rw [if_neg hq]
      simp
def Len (t : List ByteArray) (r : OpV × Bool) : Prop := r.1.keys.length ≤ t.length ∧ r.1.mask.length ≤ t.length
theorem len_ite {t : List ByteArray} {c : Prop} [Decidable c] {a b : OpV × Bool} (h1 : Len t a) (h2 : Len t b) : Len t (if c then a else b) := by
  by_cases h : c
  · rw [if_pos h]; exact h1
  · rw [if_neg h]; exact h2
theorem body_len (k : Nat) (t : List ByteArray) (hNs : numbersT t = numsT t []) : Len t (refBody k t) := by
  have h := nums_le t []
  simp only [List.length_nil, Nat.zero_add] at h
  have ht : t.tail.length ≤ t.length := by rw [List.length_tail]; omega
  unfold refBody
  rw [hNs]
  repeat' (with_reducible refine len_ite ?_ ?_)
  all_goals first
    | exact ⟨Nat.zero_le _, Nat.zero_le _⟩
    | exact ⟨Nat.zero_le _, h⟩
    | exact ⟨ht, Nat.zero_le _⟩
theorem parse_len (l : List ByteArray) (e : Int) (hs : ∀ x ∈ l, x.size ≤ 1099511627776) (hl : l.length ≤ 1048576) : (refParseO l e).1.keys.length ≤ 1048576 ∧ (refParseO l e).1.mask.length ≤ 1048576 := by
  unfold refParseO
  split
  · unfold refResO
    split
    · cases l with
      | nil => exact ⟨Nat.zero_le _, Nat.zero_le _⟩
      | cons x t =>
        have hNs : numbersT t = numsT t [] := numbersT_eq t (fun y hy => hs y (List.mem_cons_of_mem _ hy)) (by simp only [List.length_cons] at hl; omega)
        rw [ref_body x t _ rfl]
        obtain ⟨h1, h2⟩ := body_len (refK x 15) t hNs
        simp only [List.length_cons] at hl
        exact ⟨Nat.le_trans h1 (by omega), Nat.le_trans h2 (by omega)⟩
    · exact ⟨Nat.zero_le _, Nat.zero_le _⟩
  · exact ⟨Nat.zero_le _, Nat.zero_le _⟩
end Go.Proofs.YtfaelejeihmgcaaDoor.Stp
end

section
namespace Go.Proofs.YtfaelejeihmgcaaDoor.Stp
open Go.RowKit Go.Proofs.YtfaelejeihmgcaaDoorW.PrintWords
def aliveA : ByteArray := ⟨#[112, 117, 116, 32, 49, 32, 97, 32, 34, 98, 32, 99, 34]⟩
def aliveB : ByteArray := ⟨#[102, 117, 115, 101, 32, 48, 49]⟩
def wordsA : List ByteArray := [⟨#[112, 117, 116]⟩, ⟨#[49]⟩, ⟨#[97]⟩, ⟨#[98, 32, 99]⟩]
def wordsB : List ByteArray := [⟨#[102, 117, 115, 101]⟩, ⟨#[48, 49]⟩]
theorem splitA : Wd.word_Split.f 100 aliveA = some (wordsA, 0) := by decide +kernel
theorem splitB : Wd.word_Split.f 100 aliveB = some (wordsB, 0) := by decide +kernel
theorem smallA : ∀ x ∈ wordsA, x.size ≤ 1099511627776 := by
  intro x hx
  have : wordsA.all (fun x => decide (x.size ≤ 1099511627776)) = true := by decide +kernel
  exact of_decide_eq_true (List.all_eq_true.1 this x hx)
theorem smallB : ∀ x ∈ wordsB, x.size ≤ 1099511627776 := by
  intro x hx
  have : wordsB.all (fun x => decide (x.size ≤ 1099511627776)) = true := by decide +kernel
  exact of_decide_eq_true (List.all_eq_true.1 this x hx)
theorem parseA : parseO wordsA 0 = ({ zeroOp 2 with s := 1, key := ⟨#[97]⟩, val := ⟨#[98, 32, 99]⟩ }, 0) := by
  rw [parse_same wordsA 0 smallA (by decide)]
  kernel_rfl
theorem parseB : parseO wordsB 0 = (zeroOp 0, 2) := by
  rw [parse_same wordsB 0 smallB (by decide)]
  kernel_rfl
end Go.Proofs.YtfaelejeihmgcaaDoor.Stp
end

section
namespace Go.Proofs.YtfaelejeihmgcaaDoor.Stp
open Go.RowKit Go.Proofs.YtfaelejeihmgcaaDoorW.PrintWords Go.Proofs.YtfaelejeihmgcaaDoorW.PrintLast
theorem parsed_A (w : World) (hT : Tabs w) : Calls Tryd.prog 42 #[.string ⟨#[112, 117, 116, 32, 49, 32, 97, 32, 34, 98, 32, 99, 34]⟩] w fun e w' => ∃ Ak ck Am cm, e = .returned (.tuple #[.agg #[.int .i64 2, .int .i64 1, .string ⟨#[97]⟩, .string ⟨#[98, 32, 99]⟩, .slice Ak 0 ck, .int .i64 0, .slice Am 0 cm, .int .i64 0, .int .i64 0, .int .i64 0], .int .i64 0]) ∧ Below w.heap.size w w' := by
  have h := step_Parse_walk 100 aliveA wordsA 0 w splitA (by decide) smallA hT
  rw [parseA] at h
  refine h.mono ?_
  rintro e w' ⟨vk, vm, he, hk, hm, hb⟩
  obtain ⟨Ak, ck, ek⟩ := Kd.R_slice hk
  obtain ⟨Am, cm, em⟩ := Kd.R_slice hm
  subst ek
  subst em
  exact ⟨Ak, ck, Am, cm, he, hb⟩
theorem parsed_B (w : World) (hT : Tabs w) : Calls Tryd.prog 42 #[.string ⟨#[102, 117, 115, 101, 32, 48, 49]⟩] w fun e w' => ∃ Ak ck Am cm, e = .returned (.tuple #[.agg #[.int .i64 0, .int .i64 0, .string ⟨#[]⟩, .string ⟨#[]⟩, .slice Ak 0 ck, .int .i64 0, .slice Am 0 cm, .int .i64 0, .int .i64 0, .int .i64 0], .int .i64 2]) ∧ Below w.heap.size w w' := by
  have h := step_Parse_walk 100 aliveB wordsB 0 w splitB (by decide) smallB hT
  rw [parseB] at h
  refine h.mono ?_
  rintro e w' ⟨vk, vm, he, hk, hm, hb⟩
  obtain ⟨Ak, ck, ek⟩ := Kd.R_slice hk
  obtain ⟨Am, cm, em⟩ := Kd.R_slice hm
  subst ek
  subst em
  exact ⟨Ak, ck, Am, cm, he, hb⟩
set_option maxHeartbeats 16000000 in
set_option maxRecDepth 100000 in
theorem alive_walk (w : World) (hT : Tabs w) : Calls Tryd.prog 44 #[] w fun e w' => e = .returned (.bool true) ∧ Below w.heap.size w w' := by
  go_enter Tryd.func44, Tryd.ntmps44
  go_wp2_with fail
  refine (parsed_A w hT).mono ?_
  rintro en w1 ⟨Ak, ck, Am, cm, rfl, hb1⟩
  go_upto_region 2 with (fail)
  change Code.wp _ _ _ _ (w1.alloc (.cells #[.int .i64 2, .int .i64 1, .string ⟨#[97]⟩, .string ⟨#[98, 32, 99]⟩, .slice Ak 0 ck, .int .i64 0, .slice Am 0 cm, .int .i64 0, .int .i64 0, .int .i64 0] 61))
  obtain ⟨O, hO⟩ : ∃ O : Obj, O = .cells #[.int .i64 2, .int .i64 1, .string ⟨#[97]⟩, .string ⟨#[98, 32, 99]⟩, .slice Ak 0 ck, .int .i64 0, .slice Am 0 cm, .int .i64 0, .int .i64 0, .int .i64 0] 61 := ⟨_, rfl⟩
  rw [← hO]
  have hz2 : (w1.alloc O).heap[w1.heap.size]? = some (.cells #[.int .i64 2, .int .i64 1, .string ⟨#[97]⟩, .string ⟨#[98, 32, 99]⟩, .slice Ak 0 ck, .int .i64 0, .slice Am 0 cm, .int .i64 0, .int .i64 0, .int .i64 0] 61) := (heap_alloc_new w1 O).trans (by rw [hO])
  have hb2 := below_alloc hb1 O
  have hlt : w1.heap.size < (w1.alloc O).heap.size := by simp
  clear hO hb1
  generalize w1.alloc O = w2 at hz2 hb2 hlt ⊢
  have hT2 := hT.below hb2
  go_wp2_with fail
  refine (parsed_B w2 hT2).mono ?_
  rintro en w3 ⟨Bk, dk, Bm, dm, rfl, hb3⟩
  have hz3 := (hb3.block w1.heap.size hlt).trans hz2
  have hb4 := below_then hb2 hb2.size hb3
  clear hz2 hb2 hb3 hT2 hT
  go_upto_region 3 with (fail)
  change Code.wp _ _ _ _ (w3.alloc (.cells #[.int .i64 0, .int .i64 0, .string ⟨#[]⟩, .string ⟨#[]⟩, .slice Bk 0 dk, .int .i64 0, .slice Bm 0 dm, .int .i64 0, .int .i64 0, .int .i64 0] 61))
  generalize (Obj.cells #[.int .i64 0, .int .i64 0, .string ⟨#[]⟩, .string ⟨#[]⟩, .slice Bk 0 dk, .int .i64 0, .slice Bm 0 dm, .int .i64 0, .int .i64 0, .int .i64 0] 61) = O2
  have hz5 := (Lib.alloc_old w3 O2 _ (Array.getElem?_eq_some_iff.1 hz3).1).trans hz3
  have hb5 := below_alloc hb4 O2
  clear hz3 hb4
  generalize w3.alloc O2 = w5 at hz5 hb5 ⊢
  have r0 : w5.cell? ⟨w1.heap.size, 0, none⟩ = some (.int .i64 2) := Lib.cell_of_heap hz5 0
  have r1 : w5.cell? ⟨w1.heap.size, 1, none⟩ = some (.int .i64 1) := Lib.cell_of_heap hz5 1
  have r2 : w5.cell? ⟨w1.heap.size, 2, none⟩ = some (.string ⟨#[97]⟩) := Lib.cell_of_heap hz5 2
  have r3 : w5.cell? ⟨w1.heap.size, 3, none⟩ = some (.string ⟨#[98, 32, 99]⟩) := Lib.cell_of_heap hz5 3
  have HB := Lib.hid hb5
  clear hz5 hb5
  go_wp2
  go_ret
  exact ⟨rfl, HB.out⟩
end Go.Proofs.YtfaelejeihmgcaaDoor.Stp
end

section
namespace Go.Proofs.YtfaelejeihmgcaaDoor.Wd
open Go.RowKit Go.Proofs.YtfaelejeihmgcaaDoorW.PrintWords Go.Proofs.YtfaelejeihmgcaaDoorW.PrintLast
set_option maxRecDepth 100000 in
theorem and31 : ∀ x : Fin 256, Go.bits .and .u8 ((x.val : Nat) : Int) 31 = ((x.val % 32 : Nat) : Int) := by decide
set_option maxRecDepth 100000 in
theorem and15 : ∀ x : Fin 256, Go.bits .and .u8 ((x.val : Nat) : Int) 15 = ((x.val % 16 : Nat) : Int) := by decide
set_option maxRecDepth 100000 in
theorem and7 : ∀ x : Fin 256, Go.bits .and .u8 ((x.val : Nat) : Int) 7 = ((x.val % 8 : Nat) : Int) := by decide
set_option maxRecDepth 100000 in
theorem and63 : ∀ x : Fin 256, Go.bits .and .u8 ((x.val : Nat) : Int) 63 = ((x.val % 64 : Nat) : Int) := by decide
theorem follows_f (s : ByteArray) (i : Nat) (lo hi : Int) : cachepotref1_follows.f s (i : Int) lo hi = some (decide (i < s.size ∧ lo ≤ ((s.get! i).toNat : Int) ∧ ((s.get! i).toNat : Int) ≤ hi)) := by
  unfold cachepotref1_follows.f
  have e : bt s (i : Int) = ((s.get! i).toNat : Int) := by rw [bt_get]; rfl
  rw [e]
  by_cases h1 : i < s.size
  · rw [if_pos (by omega), if_pos (by omega)]
    by_cases h2 : ((s.get! i).toNat : Int) ≥ lo
    · rw [if_pos h2]
      congr 1
      rw [decide_eq_decide]
      exact ⟨fun h => ⟨h1, h2, h⟩, fun h => h.2.2⟩
    · rw [if_neg h2]
      congr 1
      rw [eq_comm, decide_eq_false_iff_not]
      exact fun h => h2 h.2.1
  · rw [if_neg (by omega)]
    congr 1
    rw [eq_comm, decide_eq_false_iff_not]
    exact fun h => h1 h.1
theorem w64 (x : Int) (h0 : -9223372036854775808 ≤ x) (h1 : x ≤ 9223372036854775807) : wrap64 x = x := by unfold wrap64; omega
/-- the shape of the reference's Rune, in numbers: n bytes are left, b0 .. b3 stand there, L and H bound the second -/
def refN (n b0 b1 b2 b3 L H : Nat) : Nat × Nat :=
  if b0 < 128 then (b0, 1)
  else if (194 ≤ b0 ∧ b0 ≤ 223) ∧ (1 < n ∧ 128 ≤ b1 ∧ b1 ≤ 191) then (b0 % 32 * 64 + b1 % 64, 2)
  else if (224 ≤ b0 ∧ b0 ≤ 239) ∧ (1 < n ∧ L ≤ b1 ∧ b1 ≤ H) ∧ (2 < n ∧ 128 ≤ b2 ∧ b2 ≤ 191) then (b0 % 16 * 4096 + b1 % 64 * 64 + b2 % 64, 3)
  else if (240 ≤ b0 ∧ b0 ≤ 244) ∧ (1 < n ∧ L ≤ b1 ∧ b1 ≤ H) ∧ (2 < n ∧ 128 ≤ b2 ∧ b2 ≤ 191) ∧ (3 < n ∧ 128 ≤ b3 ∧ b3 ≤ 191) then (b0 % 8 * 262144 + b1 % 64 * 4096 + b2 % 64 * 64 + b3 % 64, 4)
  else (65533, 1)
def LowOk (b0 L : Nat) : Prop := (b0 = 224 ∧ L = 160) ∨ (b0 = 240 ∧ L = 144) ∨ (b0 ≠ 224 ∧ b0 ≠ 240 ∧ L = 128)
def HighOk (b0 H : Nat) : Prop := (b0 = 237 ∧ H = 159) ∨ (b0 = 244 ∧ H = 143) ∨ (b0 ≠ 237 ∧ b0 ≠ 244 ∧ H = 191)
set_option maxHeartbeats 4000000 in
set_option maxRecDepth 100000 in
theorem refN_eq (n b0 b1 b2 b3 L H : Nat) (h0 : b0 < 256) (h1 : b1 < 256) (h2 : b2 < 256) (h3 : b3 < 256) (hL : LowOk b0 L) (hH : HighOk b0 H) : refN n b0 b1 b2 b3 L H = Lib.decodeN n b0 b1 b2 b3 := by
  unfold refN Lib.decodeN
  unfold LowOk at hL
  unfold HighOk at hH
  by_cases c0 : b0 < 128
  · rw [if_pos c0, if_pos c0]
  rw [if_neg c0, if_neg c0]
  by_cases c1 : (194 ≤ b0 ∧ b0 ≤ 223) ∧ (1 < n ∧ 128 ≤ b1 ∧ b1 ≤ 191)
  · rw [if_pos c1, if_pos (by omega), if_pos (by omega)]
  rw [if_neg c1]
  by_cases d1 : b0 / 32 = 6 ∧ (1 < n ∧ b1 / 64 = 2)
  · rw [if_pos d1, if_neg (by omega), if_neg (by omega), if_neg (by omega)]
  rw [if_neg d1]
  by_cases d2 : b0 / 16 = 14 ∧ (1 < n ∧ b1 / 64 = 2) ∧ (2 < n ∧ b2 / 64 = 2)
  · rw [if_pos d2]
    by_cases c2 : (224 ≤ b0 ∧ b0 ≤ 239) ∧ (1 < n ∧ L ≤ b1 ∧ b1 ≤ H) ∧ (2 < n ∧ 128 ≤ b2 ∧ b2 ≤ 191)
    · rw [if_pos c2, if_pos (by omega)]
    · rw [if_neg c2, if_neg (by omega), if_neg (by omega)]
  rw [if_neg d2, if_neg (by omega)]
  by_cases d3 : b0 / 8 = 30 ∧ (1 < n ∧ b1 / 64 = 2) ∧ (2 < n ∧ b2 / 64 = 2) ∧ (3 < n ∧ b3 / 64 = 2)
  · rw [if_pos d3]
    by_cases c3 : (240 ≤ b0 ∧ b0 ≤ 244) ∧ (1 < n ∧ L ≤ b1 ∧ b1 ≤ H) ∧ (2 < n ∧ 128 ≤ b2 ∧ b2 ≤ 191) ∧ (3 < n ∧ 128 ≤ b3 ∧ b3 ≤ 191)
    · rw [if_pos c3, if_pos (by omega)]
    · rw [if_neg c3, if_neg (by omega)]
  rw [if_neg d3, if_neg (by omega)]
theorem Rune_j0 (k : Nat) (s : ByteArray) (x : Int) (b0 : Nat) : ∃ L H : Nat, LowOk b0 L ∧ HighOk b0 H ∧ (224 ≤ b0 → cachepotref1_Rune.j0 (k + 1) s x (b0 : Int) = cachepotref1_Rune.j1 k s x (b0 : Int) (L : Int) (H : Int)) ∧ (b0 < 224 → cachepotref1_Rune.j0 (k + 1) s x (b0 : Int) = cachepotref1_Rune.j1 k s x (b0 : Int) 128 191) := by
  rw [cachepotref1_Rune.j0]
  by_cases x1 : b0 = 224
  · subst x1; exact ⟨160, 191, by unfold LowOk; omega, by unfold HighOk; omega, fun _ => rfl, fun h => by omega⟩
  by_cases x2 : b0 = 237
  · subst x2; exact ⟨128, 159, by unfold LowOk; omega, by unfold HighOk; omega, fun _ => rfl, fun h => by omega⟩
  by_cases x3 : b0 = 240
  · subst x3; exact ⟨144, 191, by unfold LowOk; omega, by unfold HighOk; omega, fun _ => rfl, fun h => by omega⟩
  by_cases x4 : b0 = 244
  · subst x4; exact ⟨128, 143, by unfold LowOk; omega, by unfold HighOk; omega, fun _ => rfl, fun h => by omega⟩
  rw [if_neg (by omega), if_neg (by omega), if_neg (by omega), if_neg (by omega)]
  exact ⟨128, 191, by unfold LowOk; omega, by unfold HighOk; omega, fun _ => rfl, fun _ => rfl⟩
def refY (n b0 b1 b2 b3 L H y32 y16 y8 y1 y2 y3 : Nat) : Nat × Nat :=
  if b0 < 128 then (b0, 1)
  else if (194 ≤ b0 ∧ b0 ≤ 223) ∧ (1 < n ∧ 128 ≤ b1 ∧ b1 ≤ 191) then (y32 * 64 + y1, 2)
  else if (224 ≤ b0 ∧ b0 ≤ 239) ∧ (1 < n ∧ L ≤ b1 ∧ b1 ≤ H) ∧ (2 < n ∧ 128 ≤ b2 ∧ b2 ≤ 191) then (y16 * 4096 + y1 * 64 + y2, 3)
  else if (240 ≤ b0 ∧ b0 ≤ 244) ∧ (1 < n ∧ L ≤ b1 ∧ b1 ≤ H) ∧ (2 < n ∧ 128 ≤ b2 ∧ b2 ≤ 191) ∧ (3 < n ∧ 128 ≤ b3 ∧ b3 ≤ 191) then (y8 * 262144 + y1 * 4096 + y2 * 64 + y3, 4)
  else (65533, 1)
set_option maxHeartbeats 4000000 in
set_option maxRecDepth 100000 in
theorem Rune_core (k : Nat) (s : ByteArray) (i : Nat) (hi : i < s.size) (hs : s.size ≤ 1099511627776) (b0 b1 b2 b3 L H y32 y16 y8 y1 y2 y3 : Nat)
    (e0 : Aside0 (bt s (i : Int) = (b0 : Int))) (e1 : Aside0 (bt s ((i + 1 : Nat) : Int) = (b1 : Int))) (e2 : Aside0 (bt s ((i + 2 : Nat) : Int) = (b2 : Int))) (e3 : Aside0 (bt s ((i + 3 : Nat) : Int) = (b3 : Int)))
    (f1 : ∀ lo hi : Int, cachepotref1_follows.f s ((i + 1 : Nat) : Int) lo hi = some (decide (i + 1 < s.size ∧ lo ≤ (b1 : Int) ∧ (b1 : Int) ≤ hi)))
    (f2 : ∀ lo hi : Int, cachepotref1_follows.f s ((i + 2 : Nat) : Int) lo hi = some (decide (i + 2 < s.size ∧ lo ≤ (b2 : Int) ∧ (b2 : Int) ≤ hi)))
    (f3 : ∀ lo hi : Int, cachepotref1_follows.f s ((i + 3 : Nat) : Int) lo hi = some (decide (i + 3 < s.size ∧ lo ≤ (b3 : Int) ∧ (b3 : Int) ≤ hi)))
    (hj0 : Aside0 (224 ≤ b0 → cachepotref1_Rune.j0 (k + 3) s (i : Int) (b0 : Int) = cachepotref1_Rune.j1 (k + 2) s (i : Int) (b0 : Int) (L : Int) (H : Int)))
    (hj0' : Aside0 (b0 < 224 → cachepotref1_Rune.j0 (k + 3) s (i : Int) (b0 : Int) = cachepotref1_Rune.j1 (k + 2) s (i : Int) (b0 : Int) 128 191))
    (a31 : Aside0 (Go.bits .and .u8 (b0 : Int) 31 = (y32 : Int))) (a15 : Aside0 (Go.bits .and .u8 (b0 : Int) 15 = (y16 : Int))) (a7 : Aside0 (Go.bits .and .u8 (b0 : Int) 7 = (y8 : Int)))
    (m1 : Aside0 (Go.bits .and .u8 (b1 : Int) 63 = (y1 : Int))) (m2 : Aside0 (Go.bits .and .u8 (b2 : Int) 63 = (y2 : Int))) (m3 : Aside0 (Go.bits .and .u8 (b3 : Int) 63 = (y3 : Int)))
    (h0 : b0 < 256) (q0 : y32 < 32) (q1 : y16 < 16) (q2 : y8 < 8) (q3 : y1 < 64) (q4 : y2 < 64) (q5 : y3 < 64) :
    cachepotref1_Rune.f (k + 3) s (i : Int) = some (((refY (s.size - i) b0 b1 b2 b3 L H y32 y16 y8 y1 y2 y3).1 : Int), ((refY (s.size - i) b0 b1 b2 b3 L H y32 y16 y8 y1 y2 y3).2 : Int)) := by
  have w1 : Aside0 (wrap64 ((i : Int) + 1) = ((i + 1 : Nat) : Int)) := ⟨by
    have e := w64 ((i : Int) + 1) (by omega) (by omega)
    rw [e]
    rfl⟩
  have w2 : Aside0 (wrap64 ((i : Int) + 2) = ((i + 2 : Nat) : Int)) := ⟨by
    have e := w64 ((i : Int) + 2) (by omega) (by omega)
    rw [e]
    rfl⟩
  have w3 : Aside0 (wrap64 ((i : Int) + 3) = ((i + 3 : Nat) : Int)) := ⟨by
    have e := w64 ((i : Int) + 3) (by omega) (by omega)
    rw [e]
    rfl⟩
  unfold cachepotref1_Rune.f
  rw [if_pos (by omega), if_pos (by omega), e0.out]
  by_cases c0 : b0 < 128
  · rw [if_pos (by omega), w64 (b0 : Int) (by omega) (by omega), refY, if_pos c0]
    rfl
  rw [if_neg (by omega)]
  -- a lead byte of three or four, or none
  have hno : ∀ x l h : Int, b0 < 240 → cachepotref1_Rune.j2 (k + 1) s x (b0 : Int) l h false = some (65533, 1) := by
    intro x l h hb
    rw [cachepotref1_Rune.j2, if_neg (by simp), if_neg (by omega)]
  have hj : ¬ ((194 ≤ b0 ∧ b0 ≤ 223) ∧ (1 < s.size - i ∧ 128 ≤ b1 ∧ b1 ≤ 191)) → cachepotref1_Rune.j0 (k + 3) s (i : Int) (b0 : Int) = some (((refY (s.size - i) b0 b1 b2 b3 L H y32 y16 y8 y1 y2 y3).1 : Int), ((refY (s.size - i) b0 b1 b2 b3 L H y32 y16 y8 y1 y2 y3).2 : Int)) := by
    intro c1
    rw [refY, if_neg c0, if_neg c1]
    by_cases x0 : b0 < 224
    · rw [hj0'.out x0, cachepotref1_Rune.j1, if_neg (by omega), hno _ _ _ (by omega), if_neg (by omega), if_neg (by omega)]
      rfl
    rw [hj0.out (by omega), cachepotref1_Rune.j1, if_pos (by omega)]
    by_cases x1 : b0 ≤ 239
    · rw [if_pos (by omega), w1.out, f1, w2.out]
      simp only [Option.bind_some, decide_eq_true_eq]
      by_cases z1 : i + 1 < s.size ∧ ((L : Int) ≤ (b1 : Int) ∧ (b1 : Int) ≤ (H : Int))
      · rw [if_pos z1, f2]
        simp only [Option.bind_some]
        by_cases z2 : i + 2 < s.size ∧ ((128 : Int) ≤ (b2 : Int) ∧ (b2 : Int) ≤ 191)
        · rw [decide_eq_true z2, cachepotref1_Rune.j2, if_pos rfl, w1.out, w2.out, if_pos (by omega), if_pos (by omega), if_pos (by omega), if_pos (by omega), e1.out, e2.out, a15.out, m1.out, m2.out, if_pos (by omega)]
          simp (disch := omega) only [w64]
          simp only [Option.some.injEq, Prod.mk.injEq]
          omega
        · rw [decide_eq_false z2, hno _ _ _ (by omega), if_neg (by omega), if_neg (by omega)]
          rfl
      · rw [if_neg z1, hno _ _ _ (by omega), if_neg (by omega), if_neg (by omega)]
        rfl
    · rw [if_neg (by omega), cachepotref1_Rune.j2, if_neg (by simp), if_pos (by omega), if_neg (show ¬ ((224 ≤ b0 ∧ b0 ≤ 239) ∧ _) from fun h => x1 h.1.2)]
      by_cases x2 : b0 ≤ 244
      · rw [if_pos (by omega), w1.out, f1]
        simp only [Option.bind_some, decide_eq_true_eq]
        by_cases z1 : i + 1 < s.size ∧ ((L : Int) ≤ (b1 : Int) ∧ (b1 : Int) ≤ (H : Int))
        · rw [if_pos z1, w2.out, f2]
          simp only [Option.bind_some, decide_eq_true_eq]
          by_cases z2 : i + 2 < s.size ∧ ((128 : Int) ≤ (b2 : Int) ∧ (b2 : Int) ≤ 191)
          · rw [if_pos z2, w3.out, f3]
            simp only [Option.bind_some, decide_eq_true_eq]
            by_cases z3 : i + 3 < s.size ∧ ((128 : Int) ≤ (b3 : Int) ∧ (b3 : Int) ≤ 191)
            · rw [if_pos z3, if_pos (by omega), if_pos (by omega), if_pos (by omega), if_pos (by omega), if_pos (by omega), if_pos (by omega), e1.out, e2.out, e3.out, a7.out, m1.out, m2.out, m3.out, if_pos (by omega)]
              simp (disch := omega) only [w64]
              simp only [Option.some.injEq, Prod.mk.injEq]
              omega
            · rw [if_neg z3, if_neg (by omega)]; rfl
          · rw [if_neg z2, if_neg (by omega)]; rfl
        · rw [if_neg z1, if_neg (by omega)]; rfl
      · rw [if_neg (by omega), if_neg (by omega)]; rfl
  by_cases c1 : (194 ≤ b0 ∧ b0 ≤ 223) ∧ (1 < s.size - i ∧ 128 ≤ b1 ∧ b1 ≤ 191)
  · rw [if_pos (by omega), if_pos (by omega), w1.out, f1]
    simp only [Option.bind_some, decide_eq_true_eq]
    rw [if_pos (by omega), if_pos (by omega), if_pos (by omega), e1.out, a31.out, m1.out, refY, if_neg c0, if_pos c1]
    simp (disch := omega) only [w64]
    simp only [Option.some.injEq, Prod.mk.injEq]
    omega
  · have hj' := hj c1
    by_cases x1 : 194 ≤ b0
    · rw [if_pos (by omega)]
      by_cases x2 : b0 ≤ 223
      · rw [if_pos (by omega), w1.out, f1]
        simp only [Option.bind_some, decide_eq_true_eq]
        rw [if_neg (by omega)]
        exact hj'
      · rw [if_neg (by omega)]; exact hj'
    · rw [if_neg (by omega)]; exact hj'
theorem Rune_f (k : Nat) (s : ByteArray) (i : Nat) (hi : i < s.size) (hs : s.size ≤ 1099511627776) :
    cachepotref1_Rune.f (k + 3) s (i : Int) = some (((Utf8.decode s i).1 : Int), ((Utf8.decode s i).2 : Int)) := by
  obtain ⟨L, H, hL, hH, hj0, hj0'⟩ := Rune_j0 (k + 2) s (i : Int) (s.get! i).toNat
  rw [Lib.decode_at, ← refN_eq _ _ _ _ _ L H (s.get! i).toNat_lt (s.get! (i + 1)).toNat_lt (s.get! (i + 2)).toNat_lt (s.get! (i + 3)).toNat_lt hL hH]
  exact Rune_core k s i hi hs _ _ _ _ L H _ _ _ _ _ _ ⟨by rw [bt_get]; rfl⟩ ⟨by rw [bt_get]; rfl⟩ ⟨by rw [bt_get]; rfl⟩ ⟨by rw [bt_get]; rfl⟩
    (follows_f s (i + 1)) (follows_f s (i + 2)) (follows_f s (i + 3)) ⟨hj0⟩ ⟨hj0'⟩ ⟨and31 ⟨_, (s.get! i).toNat_lt⟩⟩ ⟨and15 ⟨_, (s.get! i).toNat_lt⟩⟩ ⟨and7 ⟨_, (s.get! i).toNat_lt⟩⟩
    ⟨and63 ⟨_, (s.get! (i + 1)).toNat_lt⟩⟩ ⟨and63 ⟨_, (s.get! (i + 2)).toNat_lt⟩⟩ ⟨and63 ⟨_, (s.get! (i + 3)).toNat_lt⟩⟩ (s.get! i).toNat_lt
    (Nat.mod_lt _ (by decide)) (Nat.mod_lt _ (by decide)) (Nat.mod_lt _ (by decide)) (Nat.mod_lt _ (by decide)) (Nat.mod_lt _ (by decide)) (Nat.mod_lt _ (by decide))
theorem Plain_f (r n : Nat) : cachepotref1_Plain.f (r : Int) (n : Int) = some (decide (33 ≤ r ∧ ¬ (127 ≤ r ∧ r ≤ 160) ∧ ¬ (r = 65533 ∧ n = 1))) := by
  unfold cachepotref1_Plain.f
  repeat' split
  all_goals (congr 1; rw [Bool.eq_iff_iff]; simp; omega)
/-- the reference's plain: the width, or 0 -/
theorem plain_f (k : Nat) (s : ByteArray) (i : Nat) (hi : i < s.size) (hs : s.size ≤ 1099511627776) :
    cachepotref3_plain.f (k + 3) s (i : Int) = some (if mayB s i = true then (width s i : Int) else 0) := by
  unfold cachepotref3_plain.f
  rw [Rune_f k s i hi hs]
  simp only [Option.bind_some]
  rw [Plain_f]
  simp only [Option.bind_some]
  have hw := width_pos s i
  unfold mayB
  unfold width at *
  generalize (Utf8.decode s i).1 = r at *
  generalize (Utf8.decode s i).2 = n at *
  have e : mayR r n = decide ((33 ≤ r ∧ ¬ (127 ≤ r ∧ r ≤ 160) ∧ ¬ (r = 65533 ∧ n = 1)) ∧ ¬ r = 34 ∧ ¬ r = 92) := by
    rw [Bool.eq_iff_iff]
    unfold mayR
    simp
    omega
  rw [e]
  by_cases h1 : 33 ≤ r ∧ ¬ (127 ≤ r ∧ r ≤ 160) ∧ ¬ (r = 65533 ∧ n = 1)
  · rw [decide_eq_true h1, if_pos rfl]
    by_cases h2 : r = 34
    · rw [if_pos (by omega), if_neg (by simp [h2])]
    · rw [if_neg (by omega)]
      by_cases h3 : r = 92
      · rw [if_pos (by omega), if_neg (by simp [h3])]
      · rw [if_neg (by omega), if_pos (by rw [decide_eq_true_eq]; exact ⟨h1, h2, h3⟩)]
  · rw [decide_eq_false h1, if_neg (by simp), if_neg (by rw [decide_eq_true_eq]; exact fun h => h1 h.1)]
end Go.Proofs.YtfaelejeihmgcaaDoor.Wd
end

section
namespace Go.Proofs.YtfaelejeihmgcaaDoor.Wd
open Go.RowKit Go.Proofs.YtfaelejeihmgcaaDoorW.PrintWords Go.Proofs.YtfaelejeihmgcaaDoorW.PrintLast
theorem mayB_ex (s : ByteArray) (p i : Nat) : mayB (s.extract p s.size) i = mayB s (p + i) := by unfold mayB; rw [decode_extract]
theorem width_ex (s : ByteArray) (p i : Nat) : width (s.extract p s.size) i = width s (p + i) := by unfold width; rw [decode_extract]
theorem byteAt_ex (s : ByteArray) (p i : Nat) : byteAt (s.extract p s.size) i = byteAt s (p + i) := by unfold byteAt; rw [get_extract]
theorem size_ex (s : ByteArray) (p : Nat) : (s.extract p s.size).size = s.size - p := by simp
theorem bytesAt_ex (s : ByteArray) (p i n : Nat) : bytesAt (s.extract p s.size) i n = bytesAt s (p + i) n := by
  unfold bytesAt
  rw [Lib.extract_data, Lib.size_eq, ← List.length_drop, List.take_length, List.drop_drop]
theorem escB_ex (s : ByteArray) (p i : Nat) : escB (s.extract p s.size) i = escB s (p + i) := by
  unfold escB
  rw [byteAt_ex, byteAt_ex, size_ex]
  simp only [show ∀ c : Nat, (c < s.size - p) = (p + c < s.size) from fun c => propext ⟨fun h => by omega, fun h => by omega⟩, Nat.add_assoc]
/-- a match's result, its place moved back by p -/
def back (p : Nat) : Option (List UInt8 × Nat) → Option (List UInt8 × Nat)
  | some (l, n) => some (l, n - p)
  | none => none
theorem quotedFrom_ex (s : ByteArray) (p : Nat) : ∀ f i acc, quotedFrom (s.extract p s.size) f i acc = back p (quotedFrom s f (p + i) acc) := by
  intro f
  induction f with
  | zero => intro i acc; rfl
  | succ f ih =>
    intro i acc
    rw [quotedFrom, quotedFrom, mayB_ex, byteAt_ex, width_ex, bytesAt_ex, size_ex, escB_ex]
    by_cases h : i < s.size - p
    · have h' : p + i < s.size := by omega
      rw [if_pos h, if_pos h']
      by_cases h1 : (mayB s (p + i) || byteAt s (p + i) == 32) = true
      · rw [if_pos h1, if_pos h1, ih, Nat.add_assoc]
      · rw [if_neg h1, if_neg h1]
        by_cases h2 : byteAt s (p + i) = 34
        · rw [if_pos h2, if_pos h2, back]
          congr 2
          omega
        · rw [if_neg h2, if_neg h2]
          by_cases h3 : byteAt s (p + i) = 92
          · rw [if_pos h3, if_pos h3, Nat.add_assoc]
            cases escB s (p + (i + 1)) with
            | none => rfl
            | some cn => simp only [ih]; congr 2; omega
          · rw [if_neg h3, if_neg h3]; rfl
    · have h' : ¬ p + i < s.size := by omega
      rw [if_neg h, if_neg h']; rfl
theorem quotedFrom_fuel (s : ByteArray) : ∀ f f' pos acc, s.size ≤ pos + f → s.size ≤ pos + f' → quotedFrom s f pos acc = quotedFrom s f' pos acc := by
  intro f
  induction f with
  | zero =>
    intro f' pos acc h h'
    rw [quotedFrom_end s _ pos acc (by omega), quotedFrom_end s _ pos acc (by omega)]
  | succ f ih =>
    intro f' pos acc h h'
    by_cases hp : pos < s.size
    · obtain ⟨g, rfl⟩ : ∃ g, f' = g + 1 := ⟨f' - 1, by omega⟩
      have hw := width_pos s pos
      rw [quotedFrom, quotedFrom, if_pos hp, if_pos hp]
      by_cases h1 : (mayB s pos || byteAt s pos == 32) = true
      · rw [if_pos h1, if_pos h1]
        exact ih _ _ _ (by omega) (by omega)
      · rw [if_neg h1, if_neg h1]
        by_cases h2 : byteAt s pos = 34
        · rw [if_pos h2, if_pos h2]
        · rw [if_neg h2, if_neg h2]
          by_cases h3 : byteAt s pos = 92
          · rw [if_pos h3, if_pos h3]
            cases hE : escB s (pos + 1) with
            | none => rfl
            | some cn =>
              have := escB_le (show escB s (pos + 1) = some (cn.1, cn.2) from hE)
              exact ih _ _ _ (by omega) (by omega)
          · rw [if_neg h3, if_neg h3]
    · rw [quotedFrom_end s _ pos acc hp, quotedFrom_end s _ pos acc hp]
/-- where a run of plain runes ends -/
def runPlain (s : ByteArray) : Nat → Nat → Nat
  | 0, pos => pos
  | f + 1, pos => if pos < s.size then (if mayB s pos = true then runPlain s f (pos + width s pos) else pos) else pos
theorem runPlain_le (s : ByteArray) : ∀ f pos, pos ≤ s.size → pos ≤ runPlain s f pos ∧ runPlain s f pos ≤ s.size := by
  intro f
  induction f with
  | zero => intro pos h; exact ⟨Nat.le_refl _, h⟩
  | succ f ih =>
    intro pos h
    rw [runPlain]
    by_cases hp : pos < s.size
    · rw [if_pos hp]
      have hw := width_le s pos hp
      split
      · have := ih (pos + width s pos) hw
        omega
      · omega
    · rw [if_neg hp]; omega
theorem runPlain_ex (s : ByteArray) (p : Nat) (hp : p ≤ s.size) : ∀ f i, p + runPlain (s.extract p s.size) f i = runPlain s f (p + i) := by
  intro f
  induction f with
  | zero => intro i; rfl
  | succ f ih =>
    intro i
    rw [runPlain, runPlain, size_ex, mayB_ex, width_ex]
    by_cases h : i < s.size - p
    · have h' : p + i < s.size := by omega
      rw [if_pos h, if_pos h']
      split
      · rw [ih, Nat.add_assoc]
      · rfl
    · have h' : ¬ p + i < s.size := by omega
      rw [if_neg h, if_neg h']
/-- the word that stands at a place, and the place behind it -/
def firstAt (s : ByteArray) (pos : Nat) : Option (ByteArray × Nat) :=
  if pos < s.size ∧ byteAt s pos = 34 then
    match quotedFrom s s.size (pos + 1) [] with
    | some (l, n) => some (⟨l.toArray⟩, n)
    | none => none
  else if runPlain s s.size pos = pos then none else some (s.extract pos (runPlain s s.size pos), runPlain s s.size pos)
def splitFrom (s : ByteArray) : Nat → Nat → List ByteArray → Option (List ByteArray)
  | 0, _, _ => none
  | f + 1, pos, acc =>
    match firstAt s pos with
    | none => none
    | some (w, n) => if n = s.size then some (acc ++ [w]) else if byteAt s n = 32 then splitFrom s f (n + 1) (acc ++ [w]) else none
theorem ba_ext {a b : ByteArray} (h : a.data.toList = b.data.toList) : a = b := by
  cases a with
  | mk da => cases b with
    | mk db =>
      simp at h
      rw [h]
theorem ex_ex (s : ByteArray) (p a : Nat) : (s.extract p s.size).extract a (s.extract p s.size).size = s.extract (p + a) s.size := by
  apply ba_ext
  rw [Lib.extract_data, Lib.extract_data, Lib.extract_data, size_ex]
  rw [Lib.size_eq, ← List.length_drop, List.take_length, List.drop_drop]
  rw [List.take_of_length_le (by simp; omega), List.take_of_length_le (by simp)]
theorem ex_ex0 (s : ByteArray) (p n : Nat) (h : p + n ≤ s.size) : (s.extract p s.size).extract 0 n = s.extract p (p + n) := by
  apply ba_ext
  rw [Lib.extract_data, Lib.extract_data, Lib.extract_data]
  simp only [List.drop_zero, Nat.sub_zero, List.take_take]
  congr 1
  omega
theorem bt_nat (t : ByteArray) (i : Nat) : bt t (i : Int) = ((byteAt t i).toNat : Int) := by rw [bt_get]; rfl
theorem u8_eq_iff (c : UInt8) (n : Nat) (hn : n < 256) : ((c.toNat : Int) = (n : Int)) ↔ c = UInt8.ofNat n := by
  constructor
  · intro h
    apply UInt8.toNat_inj.1
    have : c.toNat = n := by omega
    rw [this]
    simp [Nat.mod_eq_of_lt hn]
  · intro h
    rw [h]
    simp [Nat.mod_eq_of_lt hn]
/-- what word.first answers -/
def firstR (p : Nat) : Option (ByteArray × Nat) → Option (ByteArray × Int × Bool) → Prop
  | some (w, n), r => r = some (w, ((n - p : Nat) : Int), true)
  | none, r => ∃ a b, r = some (a, b, false)
theorem first_l0 (t : ByteArray) (ht : t.size ≤ 1099511627776) : ∀ (d k i : Nat), i ≤ t.size → t.size - i ≤ d → d < k →
    word_first.l0 k t (i : Int) = some (t.extract 0 (runPlain t d i), (runPlain t d i : Int), decide (((runPlain t d i : Nat) : Int) > 0)) := by
  intro d
  induction d with
  | zero =>
    intro k i hi hd hk
    obtain ⟨k, rfl⟩ : ∃ m, k = m + 1 := ⟨k - 1, by omega⟩
    rw [word_first.l0, if_neg (by omega), if_pos (by omega), if_pos (by omega), runPlain]
    rfl
  | succ d ih =>
    intro k i hi hd hk
    obtain ⟨k, rfl⟩ : ∃ m, k = m + 1 := ⟨k - 1, by omega⟩
    rw [word_first.l0]
    by_cases hp : i < t.size
    · rw [if_pos (by omega), if_pos (by omega), if_pos (by omega)]
      have e : ((i : Int)).toNat = i := by omega
      rw [e, may_f t i hp]
      simp only [Option.bind_some]
      rw [runPlain, if_pos hp]
      have hw := width_le t i hp
      have hw1 := width_pos t i
      cases hm : mayB t i with
      | true =>
        rw [if_pos rfl, if_pos rfl]
        have e2 : wrap64 ((i : Int) + ((width t i : Nat) : Int)) = ((i + width t i : Nat) : Int) := by
          have := w64 ((i : Int) + ((width t i : Nat) : Int)) (by omega) (by omega)
          rw [this]; rfl
        rw [e2]
        exact ih k (i + width t i) hw (by omega) (by omega)
      | false =>
        rw [if_neg (by decide), if_neg (by decide)]
    · rw [if_neg (by omega), if_pos (by omega), if_pos (by omega), runPlain, if_neg hp]
      rfl
theorem prefix_f (t : ByteArray) : strings_HasPrefix.f t ⟨#[34]⟩ = some (decide (0 < t.size ∧ byteAt t 0 = 34)) := by
  unfold strings_HasPrefix.f stringslite_HasPrefix.f
  have e1 : ((⟨#[34]⟩ : ByteArray).size : Int) = 1 := rfl
  rw [e1]
  by_cases h : 0 < t.size
  · rw [if_pos (by omega), if_pos (by omega), if_pos (by omega)]
    simp only [Option.bind_some]
    congr 1
    have e2 : (t.extract 0 (1 : Int).toNat).toList = [byteAt t 0] := by
      rw [Lib.toList_data, Lib.extract_data]
      have : t.data.toList.drop 0 = t[0] :: t.data.toList.drop 1 := List.drop_eq_getElem_cons (by rw [← Lib.size_eq]; exact h)
      rw [this]
      have e3 : byteAt t 0 = t[0] := get_lt t 0 h
      rw [e3]
      rfl
    rw [e2, Lib.toList_data, Bool.eq_iff_iff]
    simp [h]
  · rw [if_neg (by omega)]
    simp only [Option.bind_some]
    congr 1
    rw [eq_comm, decide_eq_false_iff_not]
    exact fun hh => h hh.1
theorem first_f (s : ByteArray) (hs : s.size ≤ 1099511627776) (p : Nat) (hp : p ≤ s.size) (k : Nat) (hk : s.size < k) : firstR p (firstAt s p) (word_first.f k (s.extract p s.size)) := by
  have hz := size_ex s p
  unfold word_first.f firstAt
  have hb0 : byteAt (s.extract p s.size) 0 = byteAt s p := byteAt_ex s p 0
  rw [prefix_f, size_ex, hb0]
  simp only [Option.bind_some]
  by_cases h : p < s.size ∧ byteAt s p = 34
  · rw [if_pos h, decide_eq_true (show 0 < s.size - p ∧ byteAt s p = 34 from ⟨by omega, h.2⟩), if_pos rfl]
    unfold word_quoted.f
    rw [if_pos (by rw [hz]; omega), quotedR, quotedFrom_ex, quotedFrom_fuel s (s.extract p s.size).size s.size (p + 1) [] (by rw [hz]; omega) (by omega)]
    cases quotedFrom s s.size (p + 1) [] with
    | none => exact ⟨_, _, rfl⟩
    | some ln => rfl
  · rw [if_neg h, decide_eq_false (show ¬ (0 < s.size - p ∧ byteAt s p = 34) from fun hh => h ⟨by omega, hh.2⟩), if_neg (show ¬ (false = true) by decide)]
    have h1 := first_l0 (s.extract p s.size) (by rw [hz]; omega) s.size k 0 (by omega) (by rw [hz]; omega) hk
    have h2 := runPlain_ex s p hp s.size 0
    rw [Nat.add_zero] at h2
    have h3 := runPlain_le s s.size p hp
    have e0 : ((0 : Nat) : Int) = 0 := rfl
    rw [e0] at h1
    rw [h1]
    by_cases h4 : runPlain s s.size p = p
    · rw [if_pos h4]
      have : runPlain (s.extract p s.size) s.size 0 = 0 := by omega
      rw [this]
      exact ⟨_, _, rfl⟩
    · rw [if_neg h4]
      have h5 : runPlain (s.extract p s.size) s.size 0 = runPlain s s.size p - p := by omega
      rw [h5]
      show _ = _
      have h6 : s.extract p (runPlain s s.size p) = (s.extract p s.size).extract 0 (runPlain s s.size p - p) := by
        rw [ex_ex0 s p _ (by omega)]
        congr 1
        omega
      rw [h6, decide_eq_true (by omega)]
theorem quotedFrom_le (s : ByteArray) : ∀ f pos acc l n, quotedFrom s f pos acc = some (l, n) → pos < n ∧ n ≤ s.size := by
  intro f
  induction f with
  | zero => intro pos acc l n h; cases h
  | succ f ih =>
    intro pos acc l n h
    rw [quotedFrom] at h
    split at h
    · rename_i hp
      have hw := width_pos s pos
      split at h
      · have := ih _ _ _ _ h; omega
      · split at h
        · cases h; omega
        · split at h
          · cases hE : escB s (pos + 1) with
            | none => rw [hE] at h; cases h
            | some cn =>
              rw [hE] at h
              have := ih _ _ _ _ h
              omega
          · cases h
    · cases h
theorem firstAt_le (s : ByteArray) (p : Nat) (hp : p ≤ s.size) (w : ByteArray) (n : Nat) (h : firstAt s p = some (w, n)) : p < n ∧ n ≤ s.size := by
  unfold firstAt at h
  split at h
  · cases hq : quotedFrom s s.size (p + 1) [] with
    | none => rw [hq] at h; cases h
    | some ln =>
      rw [hq] at h
      have := quotedFrom_le s _ _ _ _ _ (show _ = some (ln.1, ln.2) from hq)
      cases h
      omega
  · have h3 := runPlain_le s s.size p hp
    split at h
    · cases h
    · cases h; omega
def splitO : Option (List ByteArray) → List ByteArray × Int
  | some l => (l, 0)
  | none => ([], 2)
theorem split_l0 (s : ByteArray) (hs : s.size ≤ 1099511627776) : ∀ (f p k : Nat) (acc : List ByteArray), p ≤ s.size → s.size - p < f → s.size + f < k → acc.length + f ≤ 2199023255552 →
    word_Split.l0 k (s.extract p s.size) acc = some (splitO (splitFrom s f p acc)) := by
  intro f
  induction f with
  | zero => intro p k acc hp hf; omega
  | succ f ih =>
    intro p k acc hp hf hk hl
    obtain ⟨k, rfl⟩ : ∃ m, k = m + 1 := ⟨k - 1, by omega⟩
    have hz := size_ex s p
    have h1 := first_f s hs p hp k (by omega)
    rw [word_Split.l0, splitFrom]
    cases hF : firstAt s p with
    | none =>
      rw [hF] at h1
      obtain ⟨a, b, h1⟩ := h1
      rw [h1]
      simp only [Option.bind_some]
      rw [if_neg (by decide)]
      rfl
    | some wn =>
      obtain ⟨w, n⟩ := wn
      have hn := firstAt_le s p hp w n hF
      rw [hF] at h1
      have h1' : word_first.f k (s.extract p s.size) = some (w, ((n - p : Nat) : Int), true) := h1
      rw [h1']
      simp only [Option.bind_some]
      rw [if_pos trivial, if_pos (by omega), hz]
      by_cases hE : n = s.size
      · rw [if_pos hE, if_pos (by omega)]
        rfl
      · rw [if_neg hE, if_neg (by omega), if_pos (by omega), if_pos (by omega), bt_nat, byteAt_ex, show p + (n - p) = n by omega]
        by_cases h32 : byteAt s n = 32
        · rw [if_pos h32, if_pos (by rw [h32]; rfl)]
          have e2 : wrap64 (((n - p : Nat) : Int) + 1) = ((n - p + 1 : Nat) : Int) := by
            have := w64 (((n - p : Nat) : Int) + 1) (by omega) (by omega)
            rw [this]; rfl
          rw [e2]
          have e3 : ((n - p + 1 : Nat) : Int).toNat = n - p + 1 := by omega
          have h7 := ex_ex s p (n - p + 1)
          rw [hz] at h7
          rw [if_pos (by omega), if_pos (by omega), e3, h7, show p + (n - p + 1) = n + 1 by omega]
          exact ih (n + 1) k (acc ++ [w]) (by omega) (by omega) (by omega) (by simp; omega)
        · rw [if_neg h32, if_neg (show ¬ (((byteAt s n).toNat : Int) = 32) from fun h => h32 ((u8_eq_iff _ 32 (by decide)).1 h))]
          rfl
theorem ex_all (s : ByteArray) : s.extract 0 s.size = s := by
  apply ba_ext
  rw [Lib.extract_data]
  simp only [List.drop_zero, Nat.sub_zero]
  exact List.take_of_length_le (by rw [← Lib.size_eq]; exact Nat.le_refl _)
theorem empty_iff (s : ByteArray) : s.toList = ([] : List UInt8) ↔ s.size = 0 := by
  rw [Lib.toList_data, ← List.length_eq_zero_iff, ← Lib.size_eq]
/-- what the program's Split computes -/
theorem word_Split_f (s : ByteArray) (hs : s.size ≤ 1099511627776) (k : Nat) (hk : 2 * s.size + 1 < k) : word_Split.f k s = some (if s.size = 0 then ([], 0) else splitO (splitFrom s (s.size + 1) 0 [])) := by
  unfold word_Split.f
  by_cases h : s.size = 0
  · rw [if_pos ((empty_iff s).2 h), if_pos h]
  · rw [if_neg (fun hh => h ((empty_iff s).1 hh)), if_neg h]
    have := split_l0 s hs (s.size + 1) 0 k [] (by omega) (by omega) (by omega) (by simp; omega)
    rw [ex_all] at this
    exact this
end Go.Proofs.YtfaelejeihmgcaaDoor.Wd
end

section
namespace Go.Proofs.YtfaelejeihmgcaaDoor.Wd
open Go.RowKit Go.Proofs.YtfaelejeihmgcaaDoorW.PrintWords Go.Proofs.YtfaelejeihmgcaaDoorW.PrintLast
def ints (l : List UInt8) : List Int := l.map fun b => (b.toNat : Int)
theorem ints_append (a b : List UInt8) : ints (a ++ b) = ints a ++ ints b := by simp [ints]
theorem ints_length (a : List UInt8) : (ints a).length = a.length := by simp [ints]
theorem str_ints (l : List UInt8) : strOfNums (ints l) = ⟨l.toArray⟩ := by
  unfold strOfNums ints
  rw [List.map_map, List.map_congr_left (g := id) (fun b _ => by simp), List.map_id]
theorem bytesOf_at (s : ByteArray) (i n : Nat) : bytesOf (s.extract i (i + n)) = ints (bytesAt s i n) := by
  unfold bytesOf ints
  rw [extract_bytes]
def hexI : Option Nat → Int
  | some a => (a : Int)
  | none => -1
theorem hex_f (k : Nat) (c : UInt8) : cachepotref3_hex.f (k + 1) (c.toNat : Int) = some (hexI (hexV c)) := by
  have hc := c.toNat_lt
  unfold cachepotref3_hex.f hexV
  have hj : ∀ h1 : ¬ (48 ≤ c.toNat ∧ c.toNat ≤ 57), cachepotref3_hex.j0 (k + 1) (c.toNat : Int) false = some (hexI (if 97 ≤ c.toNat ∧ c.toNat ≤ 102 then some (c.toNat - 87) else none)) := by
    intro h1
    rw [cachepotref3_hex.j0, if_neg (show ¬ (false = true) by decide)]
    by_cases h2 : 97 ≤ c.toNat ∧ c.toNat ≤ 102
    · rw [if_pos h2, if_pos (by omega), if_pos (by omega)]
      simp only [hexI, Option.some.injEq]
      omega
    · rw [if_neg h2]
      by_cases h3 : (c.toNat : Int) ≥ 97
      · rw [if_pos h3, if_neg (by omega)]; rfl
      · rw [if_neg h3]; rfl
  by_cases h1 : 48 ≤ c.toNat ∧ c.toNat ≤ 57
  · rw [if_pos (by omega), if_pos h1, decide_eq_true (by omega), cachepotref3_hex.j0, if_pos rfl]
    simp only [hexI, Option.some.injEq]
    omega
  · rw [if_neg h1, ← hj h1]
    by_cases h3 : (c.toNat : Int) ≥ 48
    · rw [if_pos h3, decide_eq_false (by omega)]
    · rw [if_neg h3]
theorem decode_lt (s : ByteArray) (i : Nat) (hi : i < s.size) (h : (byteAt s i).toNat < 128) : Utf8.decode s i = ((byteAt s i).toNat, 1) := by
  have e : byteAt s i = s[i] := get_lt s i hi
  rw [e] at h ⊢
  exact decode_ascii s i hi h
/-- an answer of the reference's quoted -/
def ansQ : Option (List UInt8 × Nat) → ByteArray × Int × Bool
  | some (l, n) => (⟨l.toArray⟩, (n : Int), true)
  | none => (⟨#[]⟩, 0, false)
theorem mod256 (a b : Nat) (ha : a < 16) (hb : b < 16) : (wrap64 ((wrap64 (16 * (a : Int))) + (b : Int))) % 256 = (((16 * a + b).toUInt8.toNat : Nat) : Int) := by
  have e1 := w64 (16 * (a : Int)) (by omega) (by omega)
  have e2 := w64 (16 * (a : Int) + (b : Int)) (by omega) (by omega)
  rw [e1, e2]
  have : (16 * a + b).toUInt8.toNat = 16 * a + b := by simp; omega
  rw [this]
  omega
theorem bt_lit (s : ByteArray) (i : Nat) (n : Nat) (hn : n < 256) : (bt s (i : Int) = (n : Int)) ↔ byteAt s i = UInt8.ofNat n := by
  rw [bt_nat, u8_eq_iff _ _ hn]
theorem bt_34 (s : ByteArray) (i : Nat) : (bt s (i : Int) = 34) ↔ byteAt s i = 34 := bt_lit s i 34 (by decide)
theorem bt_32 (s : ByteArray) (i : Nat) : (bt s (i : Int) = 32) ↔ byteAt s i = 32 := bt_lit s i 32 (by decide)
theorem bt_92 (s : ByteArray) (i : Nat) : (bt s (i : Int) = 92) ↔ byteAt s i = 92 := bt_lit s i 92 (by decide)
theorem wn (i n : Nat) (h : i + n ≤ 1099511627780) : wrap64 ((i : Int) + (n : Int)) = ((i + n : Nat) : Int) := by
  have := w64 ((i : Int) + (n : Int)) (by omega) (by omega)
  rw [this]; rfl
theorem wn1 (i : Nat) (h : i + 1 ≤ 1099511627780) : wrap64 ((i : Int) + 1) = ((i + 1 : Nat) : Int) := wn i 1 h
theorem wn2 (i : Nat) (h : i + 2 ≤ 1099511627780) : wrap64 ((i : Int) + 2) = ((i + 2 : Nat) : Int) := wn i 2 h
theorem wn3 (i : Nat) (h : i + 3 ≤ 1099511627780) : wrap64 ((i : Int) + 3) = ((i + 3 : Nat) : Int) := wn i 3 h
set_option maxHeartbeats 1000000 in
theorem rquoted_l0 (s : ByteArray) (hs : s.size ≤ 1099511627776) : ∀ (f pos k : Nat) (acc : List UInt8), s.size ≤ pos + f → 5 * f + 10 < k → acc.length ≤ pos →
    cachepotref3_quoted.l0 k s (ints acc) (pos : Int) = some (ansQ (quotedFrom s f pos acc)) := by
  intro f
  induction f with
  | zero =>
    intro pos k acc hf hk hl
    obtain ⟨k, rfl⟩ : ∃ m, k = m + 1 := ⟨k - 1, by omega⟩
    rw [cachepotref3_quoted.l0, if_neg (by omega)]
    rfl
  | succ f ih =>
    intro pos k acc hf hk hl
    obtain ⟨k, rfl⟩ : ∃ m, k = m + 8 := ⟨k - 8, by omega⟩
    by_cases hp : pos < s.size
    · have hw := width_pos s pos
      have hwl := width_le s pos hp
      rw [cachepotref3_quoted.l0, if_pos (by omega), plain_f (k + 4) s pos hp hs]
      simp only [Option.bind_some]
      rw [if_pos (by omega), quotedFrom, if_pos hp]
      -- a run of bytes goes in, and the loop goes on
      have put : ∀ n m, 1 ≤ n → pos + n ≤ s.size → 5 * f + 10 < m → cachepotref3_quoted.l0 m s (ints acc ++ bytesOf (s.extract pos (pos + n))) ((pos + n : Nat) : Int) = some (ansQ (quotedFrom s f (pos + n) (acc ++ bytesAt s pos n))) := by
        intro n m h1 h2 h3
        rw [bytesOf_at, ← ints_append]
        refine ih (pos + n) m _ (by omega) h3 ?_
        have : (bytesAt s pos n).length ≤ n := List.length_take_le _ _
        rw [List.length_append]; omega
      have put1 : ∀ c n m, 1 ≤ n → 5 * f + 10 < m → cachepotref3_quoted.l0 m s (ints acc ++ [((c : UInt8).toNat : Int)]) ((pos + 1 + n : Nat) : Int) = some (ansQ (quotedFrom s f (pos + 1 + n) (acc ++ [c]))) := by
        intro c n m h1 h3
        have e : ints acc ++ [(c.toNat : Int)] = ints (acc ++ [c]) := by rw [ints_append]; rfl
        rw [e]
        exact ih (pos + 1 + n) m _ (by omega) h3 (by simp; omega)
      have hx : ∀ n, pos + n ≤ s.size → (s.extract pos (pos + n)).size = n := fun n h => by simp; omega
      by_cases h34 : byteAt s pos = 34
      · have hd := decode_lt s pos hp (by rw [h34]; decide)
        have hm : mayB s pos = false := by unfold mayB; rw [hd, h34]; decide
        rw [if_pos ((bt_34 s pos).2 h34), hm, if_neg (show ¬ ((false || byteAt s pos == 32) = true) by rw [h34]; decide), if_pos h34, str_ints, wn1 pos (by omega)]
        rfl
      · rw [if_neg (fun h => h34 ((bt_34 s pos).1 h))]
        by_cases h32 : byteAt s pos = 32
        · have hd := decode_lt s pos hp (by rw [h32]; decide)
          have hw1 : width s pos = 1 := by unfold width; rw [hd]
          rw [if_pos ((bt_32 s pos).2 h32), wn1 pos (by omega), if_pos (by omega), if_pos (by omega)]
          have e1 : ((pos : Nat) : Int).toNat = pos := by omega
          have e2 : ((pos + 1 : Nat) : Int).toNat = pos + 1 := by omega
          rw [e1, e2, if_pos (by rw [hx 1 (by omega), ints_length]; omega), put 1 (k + 7) (by omega) (by omega) (by omega), if_pos (by rw [h32]; simp), hw1]
        · rw [if_neg (fun h => h32 ((bt_32 s pos).1 h))]
          by_cases h92 : byteAt s pos = 92
          · have hd := decode_lt s pos hp (by rw [h92]; decide)
            have hm : mayB s pos = false := by unfold mayB; rw [hd, h92]; decide
            rw [if_pos ((bt_92 s pos).2 h92), hm, if_neg (show ¬ ((false || byteAt s pos == 32) = true) by rw [h92]; decide), if_neg h34, if_pos h92, wn1 pos (by omega)]
            -- one byte behind the stroke
            have one : ∀ m, 5 * f + 10 < m → pos + 1 < s.size → (byteAt s (pos + 1) = 34 ∨ byteAt s (pos + 1) = 92) → ∀ z, cachepotref3_quoted.j1 (m + 1) s (ints acc) (pos : Int) z true = some (ansQ (match escB s (pos + 1) with
                | some (c, n) => quotedFrom s f (pos + 1 + n) (acc ++ [c])
                | none => none)) := by
              intro m hm' h1 h2 z
              have hE : escB s (pos + 1) = some (byteAt s (pos + 1), 1) := by rw [escB, if_pos ⟨h1, h2⟩]
              rw [cachepotref3_quoted.j1, if_pos rfl, wn1 pos (by omega), if_pos (by omega), if_pos (by omega), ints_length, if_pos (by omega), bt_nat, wn2 pos (by omega), hE]
              exact put1 _ 1 m (by omega) hm'
            have two : ∀ m, 5 * f + 10 < m → ¬ (pos + 1 < s.size ∧ (byteAt s (pos + 1) = 34 ∨ byteAt s (pos + 1) = 92)) → cachepotref3_quoted.j1 (m + 4) s (ints acc) (pos : Int) 0 false = some (ansQ (match escB s (pos + 1) with
                | some (c, n) => quotedFrom s f (pos + 1 + n) (acc ++ [c])
                | none => none)) := by
              intro m hm' h1
              have fail : cachepotref3_quoted.j2 (m + 3) s (ints acc) (pos : Int) 0 false = some (⟨#[]⟩, 0, false) := by
                rw [cachepotref3_quoted.j2, if_neg (show ¬ (false = true) by decide), if_pos rfl]
              rw [cachepotref3_quoted.j1, if_neg (show ¬ (false = true) by decide), if_pos (by omega), if_pos (by omega), if_pos ((bt_92 s pos).2 h92), wn1 pos (by omega), wn2 pos (by omega)]
              by_cases h2 : pos + 2 < s.size
              · have hE : escB s (pos + 1) = esc2 (hexV (byteAt s (pos + 1))) (hexV (byteAt s (pos + 2))) := by
                  rw [escB, if_neg h1, if_pos (by omega)]
                rw [if_pos (by omega), if_pos (by omega), if_pos (by omega), bt_nat, hex_f (m + 2), hE]
                simp only [Option.bind_some]
                cases ha : hexV (byteAt s (pos + 1)) with
                | none =>
                  rw [if_neg (by decide), fail]
                  rfl
                | some a =>
                  have ha16 := hexV_lt ha
                  rw [if_pos (show hexI (some a) ≥ 0 by simp only [hexI]; omega), if_pos (by omega), bt_nat, hex_f (m + 2)]
                  simp only [Option.bind_some]
                  cases hb : hexV (byteAt s (pos + 2)) with
                  | none =>
                    rw [decide_eq_false (show ¬ (hexI none ≥ 0) by decide), fail]
                    rfl
                  | some b =>
                    have hb16 := hexV_lt hb
                    rw [decide_eq_true (show hexI (some b) ≥ 0 by simp only [hexI]; omega), cachepotref3_quoted.j2, if_pos rfl, wn1 pos (by omega), wn2 pos (by omega), wn3 pos (by omega), if_pos (by omega), if_pos (by omega), bt_nat, hex_f (m + 1), ha]
                    simp only [Option.bind_some]
                    rw [if_pos (by omega), if_pos (by omega), bt_nat, hex_f (m + 1), hb]
                    simp only [Option.bind_some, hexI]
                    rw [ints_length, if_pos (by omega), mod256 a b ha16 hb16]
                    exact put1 _ 2 (m + 2) (by omega) (by omega)
              · have hE : escB s (pos + 1) = none := by
                  rw [escB, if_neg h1, if_neg (by omega)]
                rw [if_neg (by omega), fail, hE]
                rfl
            have hz : (if (false = true) then ((width s pos : Nat) : Int) else 0) = 0 := if_neg (by decide)
            rw [hz]
            by_cases h1 : pos + 1 < s.size
            · rw [if_pos (by omega), if_pos (by omega)]
              by_cases h2 : byteAt s (pos + 1) = 34
              · rw [if_pos ((bt_34 s (pos + 1)).2 h2)]
                exact one (k + 6) (by omega) h1 (.inl h2) 0
              · rw [if_neg (fun h => h2 ((bt_34 s (pos + 1)).1 h))]
                by_cases h3 : byteAt s (pos + 1) = 92
                · have : (bt s ((pos + 1 : Nat) : Int) == 92) = true := by rw [beq_iff_eq]; exact (bt_92 s (pos + 1)).2 h3
                  rw [this]
                  exact one (k + 6) (by omega) h1 (.inr h3) 0
                · have : (bt s ((pos + 1 : Nat) : Int) == 92) = false := by rw [beq_eq_false_iff_ne]; exact fun h => h3 ((bt_92 s (pos + 1)).1 h)
                  rw [this]
                  exact two (k + 3) (by omega) (fun h => h.2.elim h2 h3)
            · rw [if_neg (by omega)]
              exact two (k + 3) (by omega) (fun h => h1 h.1)
          · rw [if_neg (fun h => h92 ((bt_92 s pos).1 h))]
            have hbe : (byteAt s pos == 32) = false := by rw [beq_eq_false_iff_ne]; exact h32
            rw [cachepotref3_quoted.j1, if_neg (show ¬ (false = true) by decide), if_pos (by omega), if_pos (by omega), if_neg (fun h => h92 ((bt_92 s pos).1 h)), cachepotref3_quoted.j2, if_neg (show ¬ (false = true) by decide)]
            cases hm : mayB s pos with
            | false =>
              have z : (if (false = true) then ((width s pos : Nat) : Int) else 0) = 0 := if_neg (by decide)
              rw [z, if_pos rfl, hbe, if_neg (show ¬ ((false || false) = true) by decide), if_neg h34, if_neg h92]
              rfl
            | true =>
              have z : (if (true = true) then ((width s pos : Nat) : Int) else 0) = ((width s pos : Nat) : Int) := if_pos rfl
              rw [z, if_neg (show ¬ (((width s pos : Nat) : Int) = 0) by omega), if_pos (show 0 ≤ ((pos : Nat) : Int) by omega), wn pos (width s pos) (by omega), if_pos (by omega), if_pos (by omega)]
              have e1 : ((pos : Nat) : Int).toNat = pos := by omega
              have e2 : ((pos + width s pos : Nat) : Int).toNat = pos + width s pos := by omega
              rw [e1, e2, if_pos (by rw [hx _ hwl, ints_length]; omega), put (width s pos) (k + 5) (by omega) (by omega) (by omega), Bool.true_or, if_pos rfl]
    · rw [cachepotref3_quoted.l0, if_neg (by omega), quotedFrom_end s _ pos acc hp]
      rfl
/-- what the reference's quoted computes -/
theorem rquoted_f (s : ByteArray) (hs : s.size ≤ 1099511627776) (p : Nat) (hp : p < s.size) (k : Nat) (hk : 5 * s.size + 10 < k) : cachepotref3_quoted.f k s (p : Int) = some (ansQ (quotedFrom s s.size (p + 1) [])) := by
  unfold cachepotref3_quoted.f
  rw [wn1 p (by omega)]
  exact rquoted_l0 s hs s.size (p + 1) k [] (by omega) hk (by simp)
end Go.Proofs.YtfaelejeihmgcaaDoor.Wd
end

section
namespace Go.Proofs.YtfaelejeihmgcaaDoor.Wd
open Go.RowKit Go.Proofs.YtfaelejeihmgcaaDoorW.PrintWords Go.Proofs.YtfaelejeihmgcaaDoorW.PrintLast
theorem rsplit_l1 (s : ByteArray) (hs : s.size ≤ 1099511627776) (acc : List ByteArray) (b : Nat) : ∀ (d pos k : Nat), s.size ≤ pos + d → pos ≤ s.size → b ≤ pos → s.size - pos + 8 < k →
    ∃ k', k ≤ k' + (runPlain s d pos - pos) + 1 ∧ cachepotref3_Split.l1 k s acc (pos : Int) (b : Int) = if runPlain s d pos = b then some ([], 2) else cachepotref3_Split.j3 k' s acc (runPlain s d pos : Int) (s.extract b (runPlain s d pos)) := by
  have stop : ∀ (pos k : Nat), pos ≤ s.size → b ≤ pos → (if (pos : Int) = (b : Int) then (some (([] : List ByteArray), (2 : Int))) else (if 0 ≤ (b : Int) then (if (b : Int) ≤ (pos : Int) then (if (pos : Int) ≤ (s.size : Int) then (cachepotref3_Split.j3 k s acc (pos : Int) (s.extract ((b : Int) : Int).toNat ((pos : Int) : Int).toNat)) else (none)) else (none)) else (none))) = if pos = b then some ([], 2) else cachepotref3_Split.j3 k s acc (pos : Int) (s.extract b pos) := by
    intro pos k h1 h2
    by_cases h : pos = b
    · rw [if_pos h, if_pos (by omega)]
    · have e1 : ((b : Nat) : Int).toNat = b := by omega
      have e2 : ((pos : Nat) : Int).toNat = pos := by omega
      rw [if_neg h, if_neg (by omega), if_pos (by omega), if_pos (by omega), if_pos (by omega), e1, e2]
  intro d
  induction d with
  | zero =>
    intro pos k hd hp hb hk
    obtain ⟨k, rfl⟩ : ∃ m, k = m + 5 := ⟨k - 5, by omega⟩
    refine ⟨k + 4, by omega, ?_⟩
    rw [cachepotref3_Split.l1, if_neg (by omega), stop pos (k + 4) hp hb, runPlain]
  | succ d ih =>
    intro pos k hd hp hb hk
    obtain ⟨k, rfl⟩ : ∃ m, k = m + 5 := ⟨k - 5, by omega⟩
    by_cases hlt : pos < s.size
    · have hw := width_pos s pos
      have hwl := width_le s pos hlt
      cases hm : mayB s pos with
      | false =>
        refine ⟨k + 4, by omega, ?_⟩
        have z : cachepotref3_plain.f (k + 4) s (pos : Int) = some 0 := by
          have z0 := plain_f (k + 1) s pos hlt hs
          rw [hm, if_neg (show ¬ (false = true) by decide)] at z0
          exact z0
        rw [cachepotref3_Split.l1, if_pos (by omega), z, Option.bind_some]
        rw [if_neg (show ¬ ((0 : Int) > 0) by decide), stop pos (k + 4) hp hb, runPlain, if_pos hlt, hm, if_neg (show ¬ (false = true) by decide)]
      | true =>
        obtain ⟨k', hk', e⟩ := ih (pos + width s pos) (k + 4) (by omega) hwl (by omega) (by omega)
        have hle := runPlain_le s d (pos + width s pos) hwl
        have z : cachepotref3_plain.f (k + 4) s (pos : Int) = some ((width s pos : Nat) : Int) := by
          have z0 := plain_f (k + 1) s pos hlt hs
          rw [hm, if_pos rfl] at z0
          exact z0
        rw [cachepotref3_Split.l1, if_pos (by omega), z, Option.bind_some]
        rw [if_pos (show ((width s pos : Nat) : Int) > 0 by omega), Option.bind_some, wn pos (width s pos) (by omega), e, runPlain, if_pos hlt, hm, if_pos rfl]
        exact ⟨k', by omega, rfl⟩
    · refine ⟨k + 4, by omega, ?_⟩
      rw [cachepotref3_Split.l1, if_neg (by omega), stop pos (k + 4) hp hb, runPlain, if_neg hlt]
theorem rsplit_l0 (s : ByteArray) (hs : s.size ≤ 1099511627776) : ∀ (f p k : Nat) (acc : List ByteArray), p ≤ s.size → s.size - p < f → s.size - p + 5 * s.size + 4 * f + 20 < k → acc.length + f ≤ 2199023255552 →
    cachepotref3_Split.l0 k s acc (p : Int) = some (splitO (splitFrom s f p acc)) := by
  intro f
  induction f with
  | zero => intro p k acc hp hf; omega
  | succ f ih =>
    intro p k acc hp hf hk hl
    obtain ⟨k, rfl⟩ : ∃ m, k = m + 4 := ⟨k - 4, by omega⟩
    rw [splitFrom]
    -- a word that has been read
    have word : ∀ (m n : Nat) (w : ByteArray), p < n → n ≤ s.size → s.size - (n + 1) + 5 * s.size + 4 * f + 20 < m → cachepotref3_Split.j3 (m + 1) s acc (n : Int) w = some (splitO (if n = s.size then some (acc ++ [w]) else if byteAt s n = 32 then splitFrom s f (n + 1) (acc ++ [w]) else none)) := by
      intro m n w h1 h2 h3
      rw [cachepotref3_Split.j3, if_pos (by omega)]
      simp only [Option.bind_some]
      by_cases hE : n = s.size
      · rw [if_pos hE, if_pos (by omega)]; rfl
      · rw [if_neg hE, if_neg (by omega), if_pos (by omega), if_pos (by omega)]
        by_cases h32 : byteAt s n = 32
        · rw [if_pos h32, if_pos ((bt_32 s n).2 h32), wn1 n (by omega)]
          exact ih (n + 1) m (acc ++ [w]) (by omega) (by omega) h3 (by simp; omega)
        · rw [if_neg h32, if_neg (fun h => h32 ((bt_32 s n).1 h))]; rfl
    have hj : cachepotref3_Split.l0 (k + 4) s acc (p : Int) = cachepotref3_Split.j1 (k + 3) s acc (p : Int) (decide (p < s.size ∧ byteAt s p = 34)) := by
      rw [cachepotref3_Split.l0]
      by_cases h1 : p < s.size
      · rw [if_pos (by omega), if_pos (by omega)]
        congr 1
        rw [Bool.eq_iff_iff, beq_iff_eq, decide_eq_true_eq, bt_34]
        exact ⟨fun h => ⟨h1, h⟩, fun h => h.2⟩
      · rw [if_neg (by omega), decide_eq_false (fun h => h1 h.1)]
    rw [hj, cachepotref3_Split.j1, firstAt]
    by_cases hq : p < s.size ∧ byteAt s p = 34
    · rw [decide_eq_true hq, if_pos rfl, if_pos hq, rquoted_f s hs p hq.1 (k + 2) (by omega)]
      simp only [Option.bind_some]
      cases hQ : quotedFrom s s.size (p + 1) [] with
      | none =>
        exact (if_neg (show ¬ ((ansQ none).2.2 = true) by decide)).trans rfl
      | some ln =>
        obtain ⟨l, n⟩ := ln
        have hn := quotedFrom_le s _ _ _ _ _ hQ
        rw [if_pos (show (ansQ (some (l, n))).2.2 = true from rfl)]
        exact word (k + 1) n _ (by omega) hn.2 (by omega)
    · rw [decide_eq_false hq, if_neg (show ¬ (false = true) by decide), if_neg hq]
      obtain ⟨k', hk', e⟩ := rsplit_l1 s hs acc p s.size p (k + 2) (by omega) hp (Nat.le_refl p) (by omega)
      have hle := runPlain_le s s.size p hp
      rw [e]
      by_cases hR : runPlain s s.size p = p
      · rw [if_pos hR, if_pos hR]; rfl
      · rw [if_neg hR, if_neg hR]
        obtain ⟨k'', rfl⟩ : ∃ m, k' = m + 1 := ⟨k' - 1, by omega⟩
        exact word k'' _ _ (by omega) hle.2 (by omega)
/-- what the reference's Split computes -/
theorem ref_Split_f (s : ByteArray) (hs : s.size ≤ 1099511627776) (k : Nat) (hk : 10 * s.size + 24 < k) : cachepotref3_Split.f k s = some (if s.size = 0 then ([], 0) else splitO (splitFrom s (s.size + 1) 0 [])) := by
  unfold cachepotref3_Split.f
  by_cases h : s.size = 0
  · rw [if_pos ((empty_iff s).2 h), if_pos h]
  · rw [if_neg (fun hh => h ((empty_iff s).1 hh)), if_neg h]
    exact rsplit_l0 s hs (s.size + 1) 0 k [] (by omega) (by omega) (by omega) (by simp; omega)
end Go.Proofs.YtfaelejeihmgcaaDoor.Wd
end

section
namespace Go.Proofs.YtfaelejeihmgcaaDoor.Stp
open Go.RowKit Go.Proofs.YtfaelejeihmgcaaDoorW.PrintWords
theorem bytesAt_len (s : ByteArray) (i n : Nat) : (Wd.bytesAt s i n).length ≤ n := by
  unfold Wd.bytesAt
  rw [List.length_take]
  omega
theorem quoted_size (s : ByteArray) : ∀ f pos acc l n, Wd.quotedFrom s f pos acc = some (l, n) → l.length + pos ≤ acc.length + n := by
  intro f
  induction f with
  | zero => intro pos acc l n h; cases h
  | succ f ih =>
    intro pos acc l n h
    rw [Wd.quotedFrom] at h
    split at h
    · split at h
      · have := ih _ _ _ _ h
        have hb := bytesAt_len s pos (Wd.width s pos)
        rw [List.length_append] at this
        omega
      · split at h
        · cases h; omega
        · split at h
          · cases hE : Wd.escB s (pos + 1) with
            | none => rw [hE] at h; cases h
            | some cn =>
              rw [hE] at h
              have := ih _ _ _ _ h
              rw [List.length_append] at this
              simp only [List.length_cons, List.length_nil] at this
              omega
          · cases h
    · cases h
theorem first_size (s : ByteArray) (p : Nat) (hp : p ≤ s.size) (w : ByteArray) (n : Nat) (h : Wd.firstAt s p = some (w, n)) : w.size ≤ s.size := by
  have hn := (Wd.firstAt_le s p hp w n h).2
  unfold Wd.firstAt at h
  split at h
  · cases hq : Wd.quotedFrom s s.size (p + 1) [] with
    | none => rw [hq] at h; cases h
    | some ln =>
      rw [hq] at h
      have := quoted_size s _ _ _ _ _ (show _ = some (ln.1, ln.2) from hq)
      cases h
      simp only [List.length_nil] at this
      show ln.1.toArray.size ≤ s.size
      rw [List.size_toArray]
      omega
  · split at h
    · cases h
    · cases h
      rw [ByteArray.size_extract]
      omega
theorem split_lim (s : ByteArray) : ∀ (f p : Nat) (acc l : List ByteArray), p ≤ s.size → Wd.splitFrom s f p acc = some l → (∀ x ∈ acc, x.size ≤ s.size) → l.length ≤ acc.length + (s.size - p) ∧ ∀ x ∈ l, x.size ≤ s.size := by
  intro f
  induction f with
  | zero => intro p acc l hp h; cases h
  | succ f ih =>
    intro p acc l hp h ha
    rw [Wd.splitFrom] at h
    cases hF : Wd.firstAt s p with
    | none => rw [hF] at h; cases h
    | some wn =>
      obtain ⟨w, n⟩ := wn
      have h1 := Wd.firstAt_le s p hp w n hF
      have h2 := first_size s p hp w n hF
      have ha' : ∀ x ∈ acc ++ [w], x.size ≤ s.size := by
        intro x hx
        rcases List.mem_append.1 hx with hx | hx
        · exact ha x hx
        · rw [List.mem_singleton.1 hx]; exact h2
      rw [hF] at h
      simp only at h
      split at h
      · cases h
        refine ⟨?_, ha'⟩
        rw [List.length_append]
        simp only [List.length_cons, List.length_nil]
        omega
      · split at h
        · have := ih (n + 1) _ _ (by omega) h ha'
          rw [List.length_append] at this
          simp only [List.length_cons, List.length_nil] at this
          exact ⟨by omega, this.2⟩
        · cases h
/-- a line's words, and whether it has any -/
def lineT (s : ByteArray) : List ByteArray × Int := if s.size = 0 then ([], 0) else Wd.splitO (Wd.splitFrom s (s.size + 1) 0 [])
theorem line_lim (s : ByteArray) : (lineT s).1.length ≤ s.size ∧ (∀ x ∈ (lineT s).1, x.size ≤ s.size) ∧ ((lineT s).2 = 0 ∨ (lineT s).2 = 2) := by
  unfold lineT
  split
  · exact ⟨Nat.zero_le _, by simp, .inl rfl⟩
  · cases h : Wd.splitFrom s (s.size + 1) 0 [] with
    | none => exact ⟨Nat.zero_le _, by simp [Wd.splitO], .inr rfl⟩
    | some l =>
      have := split_lim s _ 0 [] l (Nat.zero_le _) h (by simp)
      exact ⟨by have h1 := this.1; simp only [List.length_nil] at h1; show l.length ≤ s.size; omega, this.2, .inl rfl⟩
/-- the step that a line says -/
def parseL (s : ByteArray) : OpV × Int := parseO (lineT s).1 (lineT s).2
/-- a step's two lists, in memory -/
structure OpL (W : World) (o : OpV) (Ak : Option Addr) (ck : Nat) (Am : Option Addr) (cm : Nat) : Prop where
  k : Kd.C Kd.string W Ak o.keys.length o.keys
  kc : o.keys.length ≤ ck
  m : Kd.C (Kd.int .i64) W Am o.mask.length o.mask
  mc : o.mask.length ≤ cm
theorem OpL.below {W W1 : World} {o : OpV} {Ak Am : Option Addr} {ck cm : Nat} (h : OpL W o Ak ck Am cm) (hb : Below W.heap.size W W1) : OpL W1 o Ak ck Am cm := ⟨Kd.C_below h.k hb, h.kc, Kd.C_below h.m hb, h.mc⟩
/-- what stands behind a parsing: the step is new memory -/
def Got (w : World) (r : OpV × Int) (e : Ending) (w' : World) : Prop :=
  ∃ Ak ck Am cm, e = .returned (.tuple #[.agg #[.int .i64 r.1.kind, .int .i64 r.1.s, .string r.1.key, .string r.1.val, .slice Ak r.1.keys.length ck, .int .i64 r.1.n, .slice Am r.1.mask.length cm, .int .i64 r.1.page, .int .i64 r.1.at_, .int .i64 r.1.x], .int .i64 r.2]) ∧ OpL w' r.1 Ak ck Am cm ∧ Below w.heap.size w w'
theorem got_of {w : World} {r : OpV × Int} {e : Ending} {w' : World} (h : Parsed w r e w') : Got w r e w' := by
  obtain ⟨vk, vm, he, hk, hm, hb⟩ := h
  obtain ⟨Ak, ck, ek⟩ := Kd.R_slice hk
  obtain ⟨Am, cm, em⟩ := Kd.R_slice hm
  subst ek
  subst em
  have h1 := Kd.R_reads' hk
  have h2 := Kd.R_reads' hm
  exact ⟨Ak, ck, Am, cm, he, ⟨h1.2.2, h1.2.1, h2.2.2, h2.2.1⟩, hb⟩
theorem step_Parse_got (s : ByteArray) (hs : s.size ≤ 1048576) (w : World) (hT : Tabs w) : Calls Tryd.prog 42 #[.string s] w (Got w (parseL s)) := by
  have h := line_lim s
  exact (step_Parse_walk 3000000 s (lineT s).1 (lineT s).2 w (Wd.word_Split_f s (by omega) 3000000 (by omega)) (by omega) (fun x hx => by have := h.2.1 x hx; omega) hT).mono fun e w' h' => got_of h'
theorem ref_Parse_got (s : ByteArray) (hs : s.size ≤ 1048576) (w : World) (hT : TabsR w) : Calls Tryd.prog 43 #[.string s] w (Got w (parseL s)) := by
  have h := line_lim s
  have hx : ∀ x ∈ (lineT s).1, x.size ≤ 1099511627776 := fun x hx => by have := h.2.1 x hx; omega
  have hx' : ∀ x ∈ (lineT s).1.tail, x.size ≤ 1099511627776 := fun x h' => hx x (List.mem_of_mem_tail h')
  have ht : (lineT s).1.tail.length ≤ 1048576 := by rw [List.length_tail]; omega
  have e : parseL s = refParseO (lineT s).1 (lineT s).2 := parse_same _ _ hx (by omega)
  rw [e]
  exact (ref_Parse_walk 20000000 s (lineT s).1 (lineT s).2 w (Wd.ref_Split_f s (by omega) 20000000 (by omega)) (by omega) hx hT (fun x h' => by rw [numberT_eq x (hx x h')]; exact number_f x (hx x h')) (by rw [numbersT_eq _ hx' ht]; exact numbers_f _ hx' ht)).mono fun e w' h' => got_of h'
end Go.Proofs.YtfaelejeihmgcaaDoor.Stp
end

section
namespace Go.Proofs.YtfaelejeihmgcaaDoor.Stp
open Go.RowKit Go.Proofs.YtfaelejeihmgcaaDoorW.PrintWords Go.Proofs.YtfaelejeihmgcaaDoorW.PrintLast
/-- a step in a block of its own -/
def OpAt (W : World) (g : Nat) (o : OpV) (Ak : Option Addr) (ck : Nat) (Am : Option Addr) (cm : Nat) : Prop :=
  W.heap[g]? = some (.cells #[.int .i64 o.kind, .int .i64 o.s, .string o.key, .string o.val, .slice Ak o.keys.length ck, .int .i64 o.n, .slice Am o.mask.length cm, .int .i64 o.page, .int .i64 o.at_, .int .i64 o.x] 61) ∧ OpL W o Ak ck Am cm
theorem OpAt.below {W W1 : World} {g : Nat} {o : OpV} {Ak Am : Option Addr} {ck cm : Nat} (h : OpAt W g o Ak ck Am cm) (hb : Below W.heap.size W W1) : OpAt W1 g o Ak ck Am cm :=
  ⟨(hb.block g (Array.getElem?_eq_some_iff.1 h.1).1).trans h.1, h.2.below hb⟩
/-- the block that a step is stored into -/
def opO (o : OpV) (Ak : Option Addr) (ck : Nat) (Am : Option Addr) (cm : Nat) : Obj := .cells #[.int .i64 o.kind, .int .i64 o.s, .string o.key, .string o.val, .slice Ak o.keys.length ck, .int .i64 o.n, .slice Am o.mask.length cm, .int .i64 o.page, .int .i64 o.at_, .int .i64 o.x] 61
theorem OpAt.alloc {W : World} {o : OpV} {Ak Am : Option Addr} {ck cm : Nat} (h : OpL W o Ak ck Am cm) : OpAt (W.alloc (opO o Ak ck Am cm)) W.heap.size o Ak ck Am cm :=
  ⟨heap_alloc_new W _, h.below (below_alloc (Below.refl _ _) _)⟩
end Go.Proofs.YtfaelejeihmgcaaDoor.Stp
end

section
namespace Go.Proofs.YtfaelejeihmgcaaDoor.Stp
open Go.RowKit Go.Proofs.YtfaelejeihmgcaaDoorW.PrintWords Go.ChangeShapes Go.WideShapes
theorem laidOut : laidOutB Tryd.prog = true := by kernel_rfl
def okI (_ : Nat) (n : Int) : Prop := (Lit.int .i64 n).wf = true
def okS (N : Nat) (s : ByteArray) : Prop := s.size ≤ N ∧ s.size ≤ maxLen
def okT (N : Nat) (l : List ByteArray) : Prop := l.length ≤ N ∧ ∀ x ∈ l, okS N x
def okM (N : Nat) (l : List Int) : Prop := l.length ≤ N ∧ ∀ x ∈ l, okI N x
theorem o3 : Opn.Opn (Kd.int .i64) 3 okI := Opn.int Tryd.underlying3 (by kernel_rfl)
theorem o9 : Opn.Opn Kd.string 9 okS := Opn.string Tryd.underlying9 (by kernel_rfl)
theorem o22 : Opn.Opn (Kd.slice 9 Kd.string) 22 okT := Opn.slice o9 Tryd.underlying22 (by kernel_rfl)
theorem o56 : Opn.Opn (Kd.slice 3 (Kd.int .i64)) 56 okM := Opn.slice o3 Tryd.underlying56 (by kernel_rfl)
set_option maxRecDepth 100000 in
/-- a row of texts that came in -/
theorem texts_arg {H : Type} {enc : TypeId × Value → H} {W : World} {b0 : Nat} {v : Value} {d : DataW H} {ps : List MemPlace} (hval : Value.okWide Tryd.prog W .any b0 22 v) (h : DataW.Trod enc Tryd.prog W 0 (fun _ => true) true 22 v d ps) :
    ∃ l A c, v = .slice A l.length c ∧ l.length ≤ c ∧ Kd.string.C W A l.length l ∧ okT (Rows.uptoBulk d) l := by
  obtain ⟨a0, len, cap, rfl⟩ := okWide_slice Tryd.underlying22 hval
  obtain ⟨fuel, hf⟩ := h
  obtain ⟨x, ⟨A, c, hv, hc, hC⟩, hx⟩ := o22.opn hf
  simp [Value.cells] at hv
  obtain ⟨rfl, rfl, rfl⟩ := hv
  exact ⟨x, _, _, rfl, hc, hC, hx⟩
set_option maxRecDepth 100000 in
/-- a row of numbers that came in -/
theorem ints_arg {H : Type} {enc : TypeId × Value → H} {W : World} {b0 : Nat} {v : Value} {d : DataW H} {ps : List MemPlace} (hval : Value.okWide Tryd.prog W .any b0 56 v) (h : DataW.Trod enc Tryd.prog W 0 (fun _ => true) true 56 v d ps) :
    ∃ l A c, v = .slice A l.length c ∧ l.length ≤ c ∧ (Kd.int .i64).C W A l.length l ∧ okM (Rows.uptoBulk d) l := by
  obtain ⟨a0, len, cap, rfl⟩ := okWide_slice Tryd.underlying56 hval
  obtain ⟨fuel, hf⟩ := h
  obtain ⟨x, ⟨A, c, hv, hc, hC⟩, hx⟩ := o56.opn hf
  simp [Value.cells] at hv
  obtain ⟨rfl, rfl, rfl⟩ := hv
  exact ⟨x, _, _, rfl, hc, hC, hx⟩
end Go.Proofs.YtfaelejeihmgcaaDoor.Stp
end

section
namespace Go.Proofs.YtfaelejeihmgcaaDoor.Stp
open Go.RowKit Go.Proofs.YtfaelejeihmgcaaDoorW.PrintWords Go.Proofs.YtfaelejeihmgcaaDoorW.PrintLast Go.Proofs.YtfaelejeihmgcaaDoorW.PrintMore
attribute [local go_sem] max2_int min2_int max_two min_two max_three min_three max_four min_four   -- for this text's walks alone
set_option linter.unusedVariables false
set_option linter.unusedSimpArgs false
def cachepotref3_Digits.f : Nat → Int → Option (ByteArray)
  | 0, _ => none
  | k + 1, a0 => if a0 ≤ (-10) then ((cachepotref3_Digits.f k (wrap64 (Int.tdiv a0 10))).bind fun t175 => ((some (([(wrap64 (48 - (Int.tmod a0 10))) % 256] : List Int) : List Int)).bind fun y176 => (if t175.size + (strOfNums y176).size ≤ 9223372036854775807 then (some (t175 ++ (strOfNums y176))) else (none)))) else (if a0 < 0 then ((some (([(wrap64 (48 - a0)) % 256] : List Int) : List Int)).bind fun y179 => (if 1 + (strOfNums y179).size ≤ 9223372036854775807 then (some ((⟨#[45]⟩ : ByteArray) ++ (strOfNums y179))) else (none))) else (if a0 < 10 then (some (strOfNums (([(wrap64 (48 + a0)) % 256] : List Int)))) else ((cachepotref3_Digits.f k (wrap64 (Int.tdiv a0 10))).bind fun t185 => ((cachepotref3_Digits.f k (Int.tmod a0 10)).bind fun t186 => (if t185.size + t186.size ≤ 9223372036854775807 then (some (t185 ++ t186)) else (none))))))
def cachepotref3_Digits.T2 : Bool × List (List Nat × List Nat) := (true, [([], []), ([0], [0]), ([1], [1]), ([], []), ([3], [3]), ([4], [4]), ([5], [5]), ([6], [6]), ([7], [7]), ([2, 8], [2, 8]), ([9, 2, 0, 1, 2, 3, 4, 5, 6, 7, 8, 9], [9])])
def cachepotref3_Digits.B2 : List Nat := [0, 1, 3, 0, 8, 24, 56, 120, 248, 511, 1023]
theorem cachepotref3_Digits.tab2 : rtab .any (opsOf Tryd.f51 2) = cachepotref3_Digits.T2 := by kernel_rfl
theorem cachepotref3_Digits.bits2 : waitsOk cachepotref3_Digits.T2.2 cachepotref3_Digits.B2 = true := by kernel_rfl
set_option maxHeartbeats 8000000 in
set_option maxRecDepth 100000 in
theorem cachepotref3_Digits.calls (k : Nat) : ∀ (a0 : Int) (r : ByteArray) (w : World) (h : cachepotref3_Digits.f k a0 = some r),
    Calls Tryd.prog 51 #[.int .i64 a0] w fun e w' => e = .returned (.string r) ∧ Below w.heap.size w w' := by
  induction k using Nat.strongRecOn with
  | _ k ih =>
  intro a0 r w h
  cases k with
  | zero => exact absurd h (by simp [cachepotref3_Digits.f])
  | succ k =>
  simp only [cachepotref3_Digits.f] at h
  have HB := Aside0.mk (Below.refl w.heap.size w)
  have H : (if a0 ≤ (-10) then ((cachepotref3_Digits.f k (wrap64 (Int.tdiv a0 10))).bind fun t175 => ((some (([(wrap64 (48 - (Int.tmod a0 10))) % 256] : List Int) : List Int)).bind fun y176 => (if t175.size + (strOfNums y176).size ≤ 9223372036854775807 then (some (t175 ++ (strOfNums y176))) else (none)))) else (if a0 < 0 then ((some (([(wrap64 (48 - a0)) % 256] : List Int) : List Int)).bind fun y179 => (if 1 + (strOfNums y179).size ≤ 9223372036854775807 then (some ((⟨#[45]⟩ : ByteArray) ++ (strOfNums y179))) else (none))) else (if a0 < 10 then (some (strOfNums (([(wrap64 (48 + a0)) % 256] : List Int)))) else ((cachepotref3_Digits.f k (wrap64 (Int.tdiv a0 10))).bind fun t185 => ((cachepotref3_Digits.f k (Int.tmod a0 10)).bind fun t186 => (if t185.size + t186.size ≤ 9223372036854775807 then (some (t185 ++ t186)) else (none))))))) = some r := h
  clear h
  by_cases c2 : a0 ≤ (-10)
  · rw [if_pos c2] at H
    have c2b0 : decide (a0 ≤ (-10)) = true := decide_eq_true c2
    clear c2
    replace H := Option.bind_eq_some_iff.mp H
    obtain ⟨t175, A30, H⟩ := H
    replace H : ((some (([(wrap64 (48 - (Int.tmod a0 10))) % 256] : List Int) : List Int)).bind fun y176 => (if t175.size + (strOfNums y176).size ≤ 9223372036854775807 then (some (t175 ++ (strOfNums y176))) else (none))) = some r := H
    have A3 := Aside0.mk A30
    clear A30
    obtain ⟨y176, hy176⟩ : ∃ y_ : List Int, y_ = (([(wrap64 (48 - (Int.tmod a0 10))) % 256] : List Int)) := ⟨_, rfl⟩
    replace H : (if t175.size + (strOfNums y176).size ≤ 9223372036854775807 then (some (t175 ++ (strOfNums y176))) else (none)) = some r := by first | (rw [hy176]; with_reducible exact H) | (have H2_ := (Option.bind_some _ _).symm.trans H; rw [hy176]; with_reducible exact H2_) | (have H2_ := (Option.bind_some _ _).symm.trans H; with_reducible exact H2_) | with_reducible exact H | (rw [hy176]; exact H) | exact H
    have Ny176 := Aside0.mk hy176
    clear hy176
    by_cases c4 : t175.size + (strOfNums y176).size ≤ 9223372036854775807
    · rw [if_pos c4] at H
      have c4b0 := eq_true c4
      have c4b1 : decide (t175.size + (strOfNums y176).size ≤ 9223372036854775807) = true := decide_eq_true c4
      try have c4b2 : (9223372036854775807 < t175.size + (strOfNums y176).size) = False := eq_false (Nat.not_lt.2 c4)
      obtain rfl := Option.some.inj H
      go_enter Tryd.func51, Tryd.ntmps51
      try go_wp2
      have n0_ := Aside0.mk (below_drew1 HB.out)
      clear HB
      have HB := n0_
      clear n0_
      refine start_ (n := 11) (S := fun w' => True) (ds := []) #[false, false, false, false, false, false, false, false, false, false, false] (by kernel_rfl) rfl rfl trivial (fun hHeld => ?_); refine with_tabW cachepotref3_Digits.tab2 cachepotref3_Digits.bits2 (fun HT_ HW_ => ?_)
      generalize w.drew = w5 at HB hHeld ⊢
      refine pure_ (i := 0) (N := some 5) (v := ?_) (a' := ?_) #[true, false, false, false, false, false, false, false, false, false, false] rfl rfl (any_of HT_.out (by kernel_rfl)) (fun _ _ _ h => h) (Or.inl ⟨by rfl, ?_⟩) ?_ ?_
      rotate_left
      · intro w'
        go_simp
        with_reducible rfl
      rotate_left
      · simp only [Act.put, List.setIfInBounds_toArray, List.set_cons_zero, List.set_cons_succ, i64_w, i32_w]
        rfl
      refine pure_ (i := 1) (N := some 6) (v := ?_) (a' := ?_) #[true, true, false, false, false, false, false, false, false, false, false] rfl rfl (any_of HT_.out (by kernel_rfl)) (fun _ _ _ h => h) (Or.inl ⟨by rfl, ?_⟩) ?_ ?_
      rotate_left
      · intro w'
        go_simp
        with_reducible rfl
      rotate_left
      · simp only [Act.put, List.setIfInBounds_toArray, List.set_cons_zero, List.set_cons_succ, i64_w, i32_w]
        rfl
      refine pure_ (i := 3) (N := some 8) (v := ?_) (a' := ?_) #[true, true, false, true, false, false, false, false, false, false, false] rfl rfl (any_of HT_.out (by kernel_rfl)) (fun _ _ _ h => h) (Or.inl ⟨by rfl, ?_⟩) ?_ ?_
      rotate_left
      · intro w'
        go_simp
        with_reducible rfl
      rotate_left
      · simp only [Act.put, List.setIfInBounds_toArray, List.set_cons_zero, List.set_cons_succ, i64_w, i32_w]
        rfl
      refine pure_ (i := 4) (N := some 9) (v := ?_) (a' := ?_) #[true, true, false, true, true, false, false, false, false, false, false] rfl rfl (any_of HT_.out (by kernel_rfl)) (fun _ _ _ h => h) (Or.inl ⟨by rfl, ?_⟩) ?_ ?_
      rotate_left
      · intro w'
        go_simp
        with_reducible rfl
      rotate_left
      · simp only [Act.put, List.setIfInBounds_toArray, List.set_cons_zero, List.set_cons_succ, i64_w, i32_w]
        rfl
      refine pure_ (i := 5) (N := some 10) (v := ?_) (a' := ?_) #[true, true, false, true, true, true, false, false, false, false, false] rfl rfl (any_of HT_.out (by kernel_rfl)) (fun _ _ _ h => h) (Or.inl ⟨by rfl, ?_⟩) ?_ ?_
      rotate_left
      · intro w'
        go_simp
        with_reducible rfl
      rotate_left
      · simp only [Act.put, List.setIfInBounds_toArray, List.set_cons_zero, List.set_cons_succ, i64_w, i32_w]
        rfl
      refine pure_ (i := 6) (N := some 11) (v := ?_) (a' := ?_) #[true, true, false, true, true, true, true, false, false, false, false] rfl rfl (any_of HT_.out (by kernel_rfl)) (fun _ _ _ h => h) (Or.inl ⟨by rfl, ?_⟩) ?_ ?_
      rotate_left
      · intro w'
        go_simp
        with_reducible rfl
      rotate_left
      · simp only [Act.put, List.setIfInBounds_toArray, List.set_cons_zero, List.set_cons_succ, i64_w, i32_w]
        rfl
      refine join_ (σ := Value) 2 #[true, true, true, true, true, true, true, true, true, false, false] (fun s_ => [(7, .string t175), (12, s_), (13, .string (strOfNums y176))]) (fun s_ w' => (Kd.R (Kd.int .u8) 5 w' w.heap.size (fun _ => True) s_ y176) ∧ (Below w.heap.size w w')) ?_ ?_
      rotate_left
      · intro hCont
        refine two_ (i := 2) (j := 7) (Ni := some 7) (Nj := some 12) #[true, true, true, true, true, true, true, false, false, false, false] #[true, true, false, true, true, true, true, true, false, false, false] rfl rfl rfl rfl (two_of HT_.out (by kernel_rfl)) (by decide) (by decide) (fun K hK => ?_) (fun K hK => ?_)
        · skip
          refine goes_ Tryd.func51 (by kernel_rfl) rfl #[.int .i64 (wrap64 (Int.tdiv a0 10))] (by rfl) rfl rfl (by (try simp only [List.map_toArray, List.map_cons, List.map_nil]); first | done | rfl | (simp only [List.length_drop, List.length_take]; rfl)) ?_
          with_reducible refine (ih k (by omega) (wrap64 (Int.tdiv a0 10)) t175 _ A3.out).mono ?_
          rintro e w6 ⟨rfl, hb⟩
          refine ⟨_, rfl, ?_⟩
          have n0_ := Aside0.mk (below_step (by repeat (first | (with_reducible first | exact HB.out | apply below_alloc | apply pw_below_drewN | apply below_drew1) | exact HB.out)) hb)
          clear HB
          have HB := n0_
          clear n0_
          (try clear hb)
          (try clear hb2)
          (try clear hk)
          (try clear hi)
          refine hK.out _ _ trivial (fun hHeld => ?_)
          clear hK K
          refine norm_ (a' := ?_) ?_ ?_
          rotate_left
          · show Act.put _ (some 7) _ = _
            simp only [Act.put, List.setIfInBounds_toArray, List.set_cons_zero, List.set_cons_succ, i64_w, i32_w]
            rfl
          refine one_ (i := 7) (N := some 12) #[true, true, true, true, true, true, true, true, false, false, false] rfl rfl (one_of HT_.out (by kernel_rfl)) (by decide) (fun K hK => ?_)
          refine Kd.R_lit_step (Kd.int .u8) _ 5 ?hg (N := 12) ?hd (xs := ([(wrap64 (48 - (Int.tmod a0 10))) % 256] : List Int)) (inner := [.int .u8 ((wrap64 (48 - (Int.tmod a0 10))) % 256)]) (ok := fun _ => True) (okp := fun _ => True) ?hr ?hp (fun _ hk => hk) trivial (Below.refl _ _) (Nat.le_refl _) (by simp) ?_; (case hd => rfl); (case hg => rfl); (case hr => first | (go_simp; done) | (go_simp; rfl)); (case hp => exact (Reps.one (show Kd.M (Kd.int .u8) _ _ _ ((wrap64 (48 - (Int.tmod a0 10))) % 256) [.int .u8 ((wrap64 (48 - (Int.tmod a0 10))) % 256)] from rfl) (Reps.none _ _)))
          intro v177 w7 ho8 hb hg_ hnew_
          clear hg_ hnew_
          (first | rw [← Ny176.out] at ho8 | (simp only [Int.reduceToNat] at ho8; rw [← Ny176.out] at ho8))
          have n0_ := Aside0.mk (Kd.R_lower ho8 (below_size (by repeat (first | (with_reducible first | exact HB.out | apply below_alloc | apply pw_below_drewN | apply below_drew1) | exact HB.out))))
          have n1_ := Aside0.mk (below_step (by repeat (first | (with_reducible first | exact HB.out | apply below_alloc | apply pw_below_drewN | apply below_drew1) | exact HB.out)) hb)
          clear HB
          have HO178 := n0_
          have HB := n1_
          clear n0_ n1_
          clear hb ho8
          refine hK.out _ _ trivial (fun hHeld => ?_)
          clear hK K
          refine norm_ (a' := ?_) ?_ ?_
          rotate_left
          · show Act.put _ (some 12) _ = _
            simp only [Act.put, List.setIfInBounds_toArray, List.set_cons_zero, List.set_cons_succ, i64_w, i32_w]
            rfl
          refine one_ (i := 8) (N := some 13) #[true, true, true, true, true, true, true, true, true, false, false] rfl rfl (one_of HT_.out (by kernel_rfl)) (by decide) (fun K hK => ?_)
          have hcv9 := own_string (P := Tryd.prog) Tryd.underlying32 Tryd.underlying5 Tryd.underlying9 (Kd.own_of_R HO178.out)
          refine value_ (w1 := ?_) (v := ?_) (by rfl) rfl ?_ ?_
          rotate_left 2
          · go_simp
            constructor
            · rfl
            · rfl
          clear hcv9
          refine hK.out _ _ trivial (fun hHeld => ?_)
          clear hK K
          refine norm_ (a' := ?_) ?_ ?_
          rotate_left
          · show Act.put _ (some 13) _ = _
            simp only [Act.put, List.setIfInBounds_toArray, List.set_cons_zero, List.set_cons_succ, i64_w, i32_w]
            rfl
          exact norm_ (by simp only [putAll, Act.put, List.setIfInBounds_toArray, List.set_cons_zero, List.set_cons_succ]) (hCont (v177) _ ⟨(by (with_reducible repeat (first | apply Kd.R_alloc | apply Kd.R_drewN | apply Kd.R_drew)); exact HO178.out), (by repeat (first | (with_reducible first | exact HB.out | apply below_alloc | apply pw_below_drewN | apply below_drew1) | exact HB.out))⟩)
        · skip
          refine Kd.R_lit_step (Kd.int .u8) _ 5 ?hg (N := 12) ?hd (xs := ([(wrap64 (48 - (Int.tmod a0 10))) % 256] : List Int)) (inner := [.int .u8 ((wrap64 (48 - (Int.tmod a0 10))) % 256)]) (ok := fun _ => True) (okp := fun _ => True) ?hr ?hp (fun _ hk => hk) trivial (Below.refl _ _) (Nat.le_refl _) (by simp) ?_; (case hd => rfl); (case hg => rfl); (case hr => first | (go_simp; done) | (go_simp; rfl)); (case hp => exact (Reps.one (show Kd.M (Kd.int .u8) _ _ _ ((wrap64 (48 - (Int.tmod a0 10))) % 256) [.int .u8 ((wrap64 (48 - (Int.tmod a0 10))) % 256)] from rfl) (Reps.none _ _)))
          intro v177 w6 ho7 hb hg_ hnew_
          clear hg_ hnew_
          (first | rw [← Ny176.out] at ho7 | (simp only [Int.reduceToNat] at ho7; rw [← Ny176.out] at ho7))
          have n0_ := Aside0.mk (Kd.R_lower ho7 (below_size (by repeat (first | (with_reducible first | exact HB.out | apply below_alloc | apply pw_below_drewN | apply below_drew1) | exact HB.out))))
          have n1_ := Aside0.mk (below_step (by repeat (first | (with_reducible first | exact HB.out | apply below_alloc | apply pw_below_drewN | apply below_drew1) | exact HB.out)) hb)
          clear HB
          have HO178 := n0_
          have HB := n1_
          clear n0_ n1_
          clear hb ho7
          refine hK.out _ _ trivial (fun hHeld => ?_)
          clear hK K
          refine norm_ (a' := ?_) ?_ ?_
          rotate_left
          · show Act.put _ (some 12) _ = _
            simp only [Act.put, List.setIfInBounds_toArray, List.set_cons_zero, List.set_cons_succ, i64_w, i32_w]
            rfl
          refine two_ (i := 2) (j := 8) (Ni := some 7) (Nj := some 13) #[true, true, true, true, true, true, true, true, false, false, false] #[true, true, false, true, true, true, true, true, true, false, false] rfl rfl rfl rfl (two_of HT_.out (by kernel_rfl)) (by decide) (by decide) (fun K hK => ?_) (fun K hK => ?_)
          · skip
            refine goes_ Tryd.func51 (by kernel_rfl) rfl #[.int .i64 (wrap64 (Int.tdiv a0 10))] (by rfl) rfl rfl (by (try simp only [List.map_toArray, List.map_cons, List.map_nil]); first | done | rfl | (simp only [List.length_drop, List.length_take]; rfl)) ?_
            with_reducible refine (ih k (by omega) (wrap64 (Int.tdiv a0 10)) t175 _ A3.out).mono ?_
            rintro e w8 ⟨rfl, hb⟩
            refine ⟨_, rfl, ?_⟩
            have n0_ := Aside0.mk (Kd.R_below (by (with_reducible repeat (first | apply Kd.R_alloc | apply Kd.R_drewN | apply Kd.R_drew)); exact HO178.out) hb)
            have n1_ := Aside0.mk (below_step (by repeat (first | (with_reducible first | exact HB.out | apply below_alloc | apply pw_below_drewN | apply below_drew1) | exact HB.out)) hb)
            clear HO178
            clear HB
            have HO178 := n0_
            have HB := n1_
            clear n0_ n1_
            (try clear hb)
            (try clear hb2)
            (try clear hk)
            (try clear hi)
            refine hK.out _ _ trivial (fun hHeld => ?_)
            clear hK K
            refine norm_ (a' := ?_) ?_ ?_
            rotate_left
            · show Act.put _ (some 7) _ = _
              simp only [Act.put, List.setIfInBounds_toArray, List.set_cons_zero, List.set_cons_succ, i64_w, i32_w]
              rfl
            refine one_ (i := 8) (N := some 13) #[true, true, true, true, true, true, true, true, true, false, false] rfl rfl (one_of HT_.out (by kernel_rfl)) (by decide) (fun K hK => ?_)
            have hcv9 := own_string (P := Tryd.prog) Tryd.underlying32 Tryd.underlying5 Tryd.underlying9 (Kd.own_of_R HO178.out)
            refine value_ (w1 := ?_) (v := ?_) (by rfl) rfl ?_ ?_
            rotate_left 2
            · go_simp
              constructor
              · rfl
              · rfl
            clear hcv9
            refine hK.out _ _ trivial (fun hHeld => ?_)
            clear hK K
            refine norm_ (a' := ?_) ?_ ?_
            rotate_left
            · show Act.put _ (some 13) _ = _
              simp only [Act.put, List.setIfInBounds_toArray, List.set_cons_zero, List.set_cons_succ, i64_w, i32_w]
              rfl
            exact norm_ (by simp only [putAll, Act.put, List.setIfInBounds_toArray, List.set_cons_zero, List.set_cons_succ]) (hCont (v177) _ ⟨(by (with_reducible repeat (first | apply Kd.R_alloc | apply Kd.R_drewN | apply Kd.R_drew)); exact HO178.out), (by repeat (first | (with_reducible first | exact HB.out | apply below_alloc | apply pw_below_drewN | apply below_drew1) | exact HB.out))⟩)
          · skip
            have hcv8 := own_string (P := Tryd.prog) Tryd.underlying32 Tryd.underlying5 Tryd.underlying9 (Kd.own_of_R HO178.out)
            refine value_ (w1 := ?_) (v := ?_) (by rfl) rfl ?_ ?_
            rotate_left 2
            · go_simp
              constructor
              · rfl
              · rfl
            clear hcv8
            refine hK.out _ _ trivial (fun hHeld => ?_)
            clear hK K
            refine norm_ (a' := ?_) ?_ ?_
            rotate_left
            · show Act.put _ (some 13) _ = _
              simp only [Act.put, List.setIfInBounds_toArray, List.set_cons_zero, List.set_cons_succ, i64_w, i32_w]
              rfl
            refine one_ (i := 2) (N := some 7) #[true, true, true, true, true, true, true, true, true, false, false] rfl rfl (one_of HT_.out (by kernel_rfl)) (by decide) (fun K hK => ?_)
            refine goes_ Tryd.func51 (by kernel_rfl) rfl #[.int .i64 (wrap64 (Int.tdiv a0 10))] (by rfl) rfl rfl (by (try simp only [List.map_toArray, List.map_cons, List.map_nil]); first | done | rfl | (simp only [List.length_drop, List.length_take]; rfl)) ?_
            with_reducible refine (ih k (by omega) (wrap64 (Int.tdiv a0 10)) t175 _ A3.out).mono ?_
            rintro e w9 ⟨rfl, hb⟩
            refine ⟨_, rfl, ?_⟩
            have n0_ := Aside0.mk (Kd.R_below (by (with_reducible repeat (first | apply Kd.R_alloc | apply Kd.R_drewN | apply Kd.R_drew)); exact HO178.out) hb)
            have n1_ := Aside0.mk (below_step (by repeat (first | (with_reducible first | exact HB.out | apply below_alloc | apply pw_below_drewN | apply below_drew1) | exact HB.out)) hb)
            clear HO178
            clear HB
            have HO178 := n0_
            have HB := n1_
            clear n0_ n1_
            (try clear hb)
            (try clear hb2)
            (try clear hk)
            (try clear hi)
            refine hK.out _ _ trivial (fun hHeld => ?_)
            clear hK K
            refine norm_ (a' := ?_) ?_ ?_
            rotate_left
            · show Act.put _ (some 7) _ = _
              simp only [Act.put, List.setIfInBounds_toArray, List.set_cons_zero, List.set_cons_succ, i64_w, i32_w]
              rfl
            exact norm_ (by simp only [putAll, Act.put, List.setIfInBounds_toArray, List.set_cons_zero, List.set_cons_succ]) (hCont (v177) _ ⟨(by (with_reducible repeat (first | apply Kd.R_alloc | apply Kd.R_drewN | apply Kd.R_drew)); exact HO178.out), (by repeat (first | (with_reducible first | exact HB.out | apply below_alloc | apply pw_below_drewN | apply below_drew1) | exact HB.out))⟩)
      rintro v177 w10 ⟨h0_, h1_⟩
      have n0_ : Aside0 (Kd.R (Kd.int .u8) 5 w10 w.heap.size (fun _ => True) v177 y176) := ⟨h0_⟩
      have n1_ : Aside0 (Below w.heap.size w w10) := ⟨h1_⟩
      clear HB
      clear h0_ h1_
      have HO178 := n0_
      have HB := n1_
      clear n0_ n1_
      have hHeld := trivial
      refine norm_ (a' := ?_) ?_ ?_
      rotate_left
      · simp only [putAll, Act.put, List.setIfInBounds_toArray, List.set_cons_zero, List.set_cons_succ]
        rfl
      refine pure_ (i := 9) (N := some 14) (v := ?_) (a' := ?_) #[true, true, true, true, true, true, true, true, true, true, false] rfl rfl (any_of HT_.out (by kernel_rfl)) (fun _ _ _ h => h) (Or.inl ⟨by rfl, ?_⟩) ?_ ?_
      rotate_left
      · intro w'
        go_simp
        with_reducible rfl
      rotate_left
      · simp only [Act.put, List.setIfInBounds_toArray, List.set_cons_zero, List.set_cons_succ, i64_w, i32_w]
        rfl
      refine pure_ (i := 10) (N := some 2) (v := ?_) (a' := ?_) #[true, true, true, true, true, true, true, true, true, true, true] rfl rfl (any_of HT_.out (by kernel_rfl)) (fun _ _ _ h => h) (Or.inl ⟨by rfl, ?_⟩) ?_ ?_
      rotate_left
      · intro w'
        go_simp
        with_reducible rfl
      rotate_left
      · simp only [Act.put, List.setIfInBounds_toArray, List.set_cons_zero, List.set_cons_succ, i64_w, i32_w]
        rfl
      refine done_ (done_of HT_.out (by kernel_rfl)) ?_
      try go_wp2
      go_ret
      exact ⟨by first | rfl | (simp [errW_none, errW_some] <;> rfl) | (simp [*, errW_none, errW_some] <;> rfl), by repeat (first | (with_reducible first | exact HB.out | apply below_alloc | apply pw_below_drewN | apply below_drew1) | exact HB.out)⟩
    · rw [if_neg c4] at H
      exact absurd H (by simp)
  · rw [if_neg c2] at H
    have c2b0 : decide (a0 ≤ (-10)) = false := decide_eq_false c2
    clear c2
    by_cases c11 : a0 < 0
    · rw [if_pos c11] at H
      have c11b0 : decide (a0 < 0) = true := decide_eq_true c11
      clear c11
      obtain ⟨y179, hy179⟩ : ∃ y_ : List Int, y_ = (([(wrap64 (48 - a0)) % 256] : List Int)) := ⟨_, rfl⟩
      replace H : (if 1 + (strOfNums y179).size ≤ 9223372036854775807 then (some ((⟨#[45]⟩ : ByteArray) ++ (strOfNums y179))) else (none)) = some r := by first | (rw [hy179]; with_reducible exact H) | (have H2_ := (Option.bind_some _ _).symm.trans H; rw [hy179]; with_reducible exact H2_) | (have H2_ := (Option.bind_some _ _).symm.trans H; with_reducible exact H2_) | with_reducible exact H | (rw [hy179]; exact H) | exact H
      have Ny179 := Aside0.mk hy179
      clear hy179
      by_cases c12 : 1 + (strOfNums y179).size ≤ 9223372036854775807
      · rw [if_pos c12] at H
        have c12b0 := eq_true c12
        have c12b1 : decide (1 + (strOfNums y179).size ≤ 9223372036854775807) = true := decide_eq_true c12
        try have c12b2 : (9223372036854775807 < 1 + (strOfNums y179).size) = False := eq_false (Nat.not_lt.2 c12)
        obtain rfl := Option.some.inj H
        go_enter Tryd.func51, Tryd.ntmps51
        go_wp2_with (first | ((with_reducible refine gate_dst (N := 20) rfl ?_); refine Kd.R_lit (Kd.int .u8) _ 5 ?hg (N := 20) ?hd (xs := ([(wrap64 (48 - a0)) % 256] : List Int)) (inner := [.int .u8 ((wrap64 (48 - a0)) % 256)]) (ok := fun _ => True) (okp := fun _ => True) ?hr ?hp (fun _ hk => hk) trivial (Below.refl _ _) (Nat.le_refl _) (by simp) ?_; (case hd => rfl); (case hg => rfl); (case hr => first | (go_simp; done) | (go_simp; rfl)); (case hp => exact (Reps.one (show Kd.M (Kd.int .u8) _ _ _ ((wrap64 (48 - a0)) % 256) [.int .u8 ((wrap64 (48 - a0)) % 256)] from rfl) (Reps.none _ _))); intro v180 w13 ho14 hb hg_ hnew_; clear hg_ hnew_; (first | rw [← Ny179.out] at ho14 | (simp only [Int.reduceToNat] at ho14; rw [← Ny179.out] at ho14)); have n0_ := Aside0.mk (Kd.R_lower ho14 (below_size (by repeat (first | (with_reducible first | exact HB.out | apply below_alloc | apply pw_below_drewN | apply below_drew1) | exact HB.out)))); have n1_ := Aside0.mk (below_step (by repeat (first | (with_reducible first | exact HB.out | apply below_alloc | apply pw_below_drewN | apply below_drew1) | exact HB.out)) hb); clear HB; have HO181 := n0_; have HB := n1_; clear n0_ n1_; clear hb ho14; have hcv15 := own_string (P := Tryd.prog) Tryd.underlying32 Tryd.underlying5 Tryd.underlying9 (Kd.own_of_R HO181.out)))
        go_ret
        exact ⟨by first | rfl | (simp [errW_none, errW_some] <;> rfl) | (simp [*, errW_none, errW_some] <;> rfl), by repeat (first | (with_reducible first | exact HB.out | apply below_alloc | apply pw_below_drewN | apply below_drew1) | exact HB.out)⟩
      · rw [if_neg c12] at H
        exact absurd H (by simp)
    · rw [if_neg c11] at H
      have c11b0 : decide (a0 < 0) = false := decide_eq_false c11
      clear c11
      by_cases c16 : a0 < 10
      · rw [if_pos c16] at H
        have c16b0 : decide (a0 < 10) = true := decide_eq_true c16
        clear c16
        obtain ⟨y182, hy182⟩ : ∃ y_ : List Int, y_ = (([(wrap64 (48 + a0)) % 256] : List Int)) := ⟨_, rfl⟩
        replace H : (some (strOfNums y182)) = some r := by first | (rw [hy182]; with_reducible exact H) | (have H2_ := (Option.bind_some _ _).symm.trans H; rw [hy182]; with_reducible exact H2_) | (have H2_ := (Option.bind_some _ _).symm.trans H; with_reducible exact H2_) | with_reducible exact H | (rw [hy182]; exact H) | exact H
        have Ny182 := Aside0.mk hy182
        clear hy182
        obtain rfl := Option.some.inj H
        go_enter Tryd.func51, Tryd.ntmps51
        go_wp2_with (first | ((with_reducible refine gate_dst (N := 28) rfl ?_); refine Kd.R_lit (Kd.int .u8) _ 5 ?hg (N := 28) ?hd (xs := ([(wrap64 (48 + a0)) % 256] : List Int)) (inner := [.int .u8 ((wrap64 (48 + a0)) % 256)]) (ok := fun _ => True) (okp := fun _ => True) ?hr ?hp (fun _ hk => hk) trivial (Below.refl _ _) (Nat.le_refl _) (by simp) ?_; (case hd => rfl); (case hg => rfl); (case hr => first | (go_simp; done) | (go_simp; rfl)); (case hp => exact (Reps.one (show Kd.M (Kd.int .u8) _ _ _ ((wrap64 (48 + a0)) % 256) [.int .u8 ((wrap64 (48 + a0)) % 256)] from rfl) (Reps.none _ _))); intro v183 w17 ho18 hb hg_ hnew_; clear hg_ hnew_; (first | rw [← Ny182.out] at ho18 | (simp only [Int.reduceToNat] at ho18; rw [← Ny182.out] at ho18)); have n0_ := Aside0.mk (Kd.R_lower ho18 (below_size (by repeat (first | (with_reducible first | exact HB.out | apply below_alloc | apply pw_below_drewN | apply below_drew1) | exact HB.out)))); have n1_ := Aside0.mk (below_step (by repeat (first | (with_reducible first | exact HB.out | apply below_alloc | apply pw_below_drewN | apply below_drew1) | exact HB.out)) hb); clear HB; have HO184 := n0_; have HB := n1_; clear n0_ n1_; clear hb ho18; have hcv19 := own_string (P := Tryd.prog) Tryd.underlying32 Tryd.underlying5 Tryd.underlying9 (Kd.own_of_R HO184.out)))
        go_ret
        exact ⟨by first | rfl | (simp [errW_none, errW_some] <;> rfl) | (simp [*, errW_none, errW_some] <;> rfl), by repeat (first | (with_reducible first | exact HB.out | apply below_alloc | apply pw_below_drewN | apply below_drew1) | exact HB.out)⟩
      · rw [if_neg c16] at H
        have c16b0 : decide (a0 < 10) = false := decide_eq_false c16
        clear c16
        replace H := Option.bind_eq_some_iff.mp H
        obtain ⟨t185, A200, H⟩ := H
        replace H : ((cachepotref3_Digits.f k (Int.tmod a0 10)).bind fun t186 => (if t185.size + t186.size ≤ 9223372036854775807 then (some (t185 ++ t186)) else (none))) = some r := H
        have A20 := Aside0.mk A200
        clear A200
        replace H := Option.bind_eq_some_iff.mp H
        obtain ⟨t186, A210, H⟩ := H
        replace H : (if t185.size + t186.size ≤ 9223372036854775807 then (some (t185 ++ t186)) else (none)) = some r := H
        have A21 := Aside0.mk A210
        clear A210
        by_cases c22 : t185.size + t186.size ≤ 9223372036854775807
        · rw [if_pos c22] at H
          have c22b0 := eq_true c22
          have c22b1 : decide (t185.size + t186.size ≤ 9223372036854775807) = true := decide_eq_true c22
          try have c22b2 : (9223372036854775807 < t185.size + t186.size) = False := eq_false (Nat.not_lt.2 c22)
          obtain rfl := Option.some.inj H
          go_enter Tryd.func51, Tryd.ntmps51
          go_wp2_with (first | ((with_reducible refine gate_callee (f := 51) rfl ?_); refine goesL_ (some 32) rfl rfl Tryd.func51 (by kernel_rfl) rfl #[.int .i64 (wrap64 (Int.tdiv a0 10))] rfl (by (try simp only [List.map_toArray, List.map_cons, List.map_nil]); first | done | rfl | (simp only [List.length_drop, List.length_take]; rfl)) ?_; (with_reducible refine (ih k (by omega) (wrap64 (Int.tdiv a0 10)) t185 _ A20.out).mono ?_); rintro e w23 ⟨rfl, hb⟩; refine ⟨_, rfl, ?_⟩; have n0_ := Aside0.mk (below_step (by repeat (first | (with_reducible first | exact HB.out | apply below_alloc | apply pw_below_drewN | apply below_drew1) | exact HB.out)) hb); clear HB; have HB := n0_; clear n0_; (try clear hb); (try clear hb2); (try clear hk); (try clear hi)) | ((with_reducible refine gate_callee (f := 51) rfl ?_); refine goesL_ (some 35) rfl rfl Tryd.func51 (by kernel_rfl) rfl #[.int .i64 (Int.tmod a0 10)] rfl (by (try simp only [List.map_toArray, List.map_cons, List.map_nil]); first | done | rfl | (simp only [List.length_drop, List.length_take]; rfl)) ?_; (with_reducible refine (ih k (by omega) (Int.tmod a0 10) t186 _ A21.out).mono ?_); rintro e w24 ⟨rfl, hb⟩; refine ⟨_, rfl, ?_⟩; have n0_ := Aside0.mk (below_step (by repeat (first | (with_reducible first | exact HB.out | apply below_alloc | apply pw_below_drewN | apply below_drew1) | exact HB.out)) hb); clear HB; have HB := n0_; clear n0_; (try clear hb); (try clear hb2); (try clear hk); (try clear hi)))
          go_ret
          exact ⟨by first | rfl | (simp [errW_none, errW_some] <;> rfl) | (simp [*, errW_none, errW_some] <;> rfl), by repeat (first | (with_reducible first | exact HB.out | apply below_alloc | apply pw_below_drewN | apply below_drew1) | exact HB.out)⟩
        · rw [if_neg c22] at H
          exact absurd H (by simp)
end Go.Proofs.YtfaelejeihmgcaaDoor.Stp
end

section
namespace Go.Proofs.YtfaelejeihmgcaaDoor.Stp
open Go.RowKit Go.Proofs.YtfaelejeihmgcaaDoorW.PrintWords
def B (l : List UInt8) : ByteArray := ⟨l.toArray⟩
theorem B_size (l : List UInt8) : (B l).size = l.length := by show l.toArray.size = _; simp
theorem B_app (a b : List UInt8) : B a ++ B b = B (a ++ b) := by
  apply ByteArray.ext
  simp [B, ByteArray.data_append]
theorem dw64 (v : Int) (h0 : -9223372036854775808 ≤ v) (h1 : v ≤ 9223372036854775807) : wrap64 v = v := w64 h0 h1
theorem dec_step (u : Nat) (h : 10 ≤ u) : Lib.decDigits u = Lib.decDigits (u / 10) ++ Lib.decDigits (u % 10) := by
  conv => lhs; rw [Lib.decDigits, dif_neg (by omega)]
  rw [Lib.decDigits_one (i := u % 10) (by omega)]
theorem str1 (u : Nat) (h : u < 10) : strOfNums [wrap64 (48 + (u : Int)) % 256] = B (Lib.decDigits u) := by
  rw [Lib.decDigits_one h, dw64 _ (by omega) (by omega)]
  unfold strOfNums
  have e : ((48 + (u : Int)) % 256).toNat = 48 + u := by omega
  simp only [List.map_cons, List.map_nil, e]
  rfl
theorem dec_len (u : Nat) : (Lib.decDigits u).length ≤ u + 1 := by
  induction u using Nat.strongRecOn with
  | ind u ih =>
    by_cases h : u < 10
    · rw [Lib.decDigits_one h]; simp
    · have := ih (u / 10) (by omega)
      rw [dec_step u (by omega), List.length_append, Lib.decDigits_one (i := u % 10) (by omega)]
      simp
      omega
theorem dec_short : ∀ (k u : Nat), u < 10 ^ (k + 1) → (Lib.decDigits u).length ≤ k + 1 := by
  intro k
  induction k with
  | zero => intro u hu; rw [Lib.decDigits_one (by omega)]; simp
  | succ k ih =>
    intro u hu
    by_cases h : u < 10
    · rw [Lib.decDigits_one h]; simp
    · have := ih (u / 10) (by rw [Nat.pow_succ] at hu; omega)
      rw [dec_step u (by omega), List.length_append, Lib.decDigits_one (i := u % 10) (by omega)]
      simp
      omega
theorem digits_f : ∀ (k u : Nat), u < 10 ^ k → u ≤ 9223372036854775807 → cachepotref3_Digits.f (k + 1) (u : Int) = some (B (Lib.decDigits u)) := by
  intro k
  induction k with
  | zero =>
    intro u hu _
    have h0 : u = 0 := by omega
    subst h0
    rw [cachepotref3_Digits.f, if_neg (by omega), if_neg (by omega), if_pos (by omega), str1 0 (by omega)]
  | succ k ih =>
    intro u hu hb
    rw [cachepotref3_Digits.f, if_neg (by omega), if_neg (by omega)]
    by_cases h : u < 10
    · rw [if_pos (by omega), str1 u h]
    · rw [if_neg (by omega)]
      have hq : Int.tdiv (u : Int) 10 = ((u / 10 : Nat) : Int) := by rw [Int.tdiv_eq_ediv_of_nonneg (by omega)]; omega
      have hm : Int.tmod (u : Int) 10 = ((u % 10 : Nat) : Int) := by rw [Int.tmod_eq_emod_of_nonneg (by omega)]; omega
      have hk : 1 ≤ k := by
        rcases Nat.eq_zero_or_pos k with rfl | hk
        · simp at hu; omega
        · exact hk
      have h10 : 10 ^ 1 ≤ 10 ^ k := Nat.pow_le_pow_right (by omega) hk
      have e1 := ih (u / 10) (by rw [Nat.pow_succ] at hu; omega) (by omega)
      have e2 := ih (u % 10) (by omega) (by omega)
      have l3 : (Lib.decDigits (u % 10)).length = 1 := by rw [Lib.decDigits_one (by omega)]; rfl
      have l4 := dec_len (u / 10)
      rw [hq, hm, dw64 _ (by omega) (by omega), e1, e2]
      simp only [Option.bind_some]
      rw [if_pos (by rw [B_size, B_size, l3]; omega), B_app, ← dec_step u (by omega)]
theorem neg_div (u : Nat) : Int.tdiv (-(u : Int)) 10 = -((u / 10 : Nat) : Int) := by rw [Int.neg_tdiv, Int.tdiv_eq_ediv_of_nonneg (by omega)]; omega
theorem neg_mod (u : Nat) : Int.tmod (-(u : Int)) 10 = -((u % 10 : Nat) : Int) := by rw [Int.neg_tmod, Int.tmod_eq_emod_of_nonneg (by omega)]; omega
theorem ndigits_f : ∀ (k u : Nat), 1 ≤ u → u < 10 ^ k → u ≤ 9223372036854775808 → cachepotref3_Digits.f k (-(u : Int)) = some (B (45 :: Lib.decDigits u)) := by
  intro k
  induction k with
  | zero => intro u h1 hu; omega
  | succ k ih =>
    intro u h1 hu hb
    rw [cachepotref3_Digits.f]
    by_cases h : u < 10
    · rw [if_neg (by omega), if_pos (by omega), show (48 : Int) - -(u : Int) = 48 + (u : Int) by omega]
      simp only [Option.bind_some]
      rw [str1 u h, B_size, if_pos (by rw [Lib.decDigits_one h]; simp)]
      rw [show (⟨#[45]⟩ : ByteArray) = B [45] from rfl, B_app]
      rfl
    · rw [if_pos (by omega), neg_div, neg_mod, dw64 _ (by omega) (by omega), ih (u / 10) (by omega) (by rw [Nat.pow_succ] at hu; omega) (by omega), show (48 : Int) - -((u % 10 : Nat) : Int) = 48 + ((u % 10 : Nat) : Int) by omega]
      simp only [Option.bind_some]
      have l3 : (Lib.decDigits (u % 10)).length = 1 := by rw [Lib.decDigits_one (by omega)]; rfl
      have l4 := dec_len (u / 10)
      rw [str1 (u % 10) (by omega), if_pos (by rw [B_size, B_size, l3, List.length_cons]; omega), B_app, List.cons_append, ← dec_step u (by omega)]
theorem Digits_f (v : Int) (h0 : -9223372036854775808 ≤ v) (h1 : v ≤ 9223372036854775807) : cachepotref3_Digits.f 30 v = some (itoaB v) := by
  unfold itoaB Lib.itoa
  have hp : (9223372036854775808 : Nat) < 10 ^ 29 := by decide
  by_cases h : v < 0
  · rw [if_pos h]
    have e : v = -((v.natAbs : Nat) : Int) := by omega
    have hx : v.natAbs < 10 ^ 30 := by
      have : (10 : Nat) ^ 29 ≤ 10 ^ 30 := Nat.pow_le_pow_right (by omega) (by omega)
      omega
    have := ndigits_f 30 v.natAbs (by omega) hx (by omega)
    rw [← e] at this
    exact this
  · rw [if_neg h]
    have e : v = ((v.toNat : Nat) : Int) := by omega
    have := digits_f 29 v.toNat (by omega) (by omega)
    rw [← e] at this
    exact this
/-- a number within a million is short -/
theorem itoa_size (v : Int) (h0 : -1000000 ≤ v) (h1 : v ≤ 1000000) : (itoaB v).size ≤ 8 := by
  show (Lib.itoa v).toArray.size ≤ 8
  rw [List.size_toArray]
  unfold Lib.itoa
  have h10 : (1000000 : Nat) < 10 ^ 7 := by decide
  split
  · have := dec_short 6 v.natAbs (by omega)
    rw [List.length_cons]
    omega
  · have := dec_short 6 v.toNat (by omega)
    omega
end Go.Proofs.YtfaelejeihmgcaaDoor.Stp
end
