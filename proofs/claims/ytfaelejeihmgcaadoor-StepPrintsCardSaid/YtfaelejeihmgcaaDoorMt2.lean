/-
  Texts of mine, and texts that print.sh and pp.py wrote, merged and cut to what is used: PureP3, PureP4, PureP5, HandSh, HandH, PureA, PureB, PureSs, HandSi, OpnS, St3, PureDg, HandF, HandI, Wd7, HandE, Wd9, PureD, PureF, PurePr, HandPa, HandPb, HandPc, HandPd, PurePs, HandPe
-/
import Derived.Test.YtfaelejeihmgcaaDoorProg
import Derived.Below
import Derived.Shelf.Unicode.DecodeSlow
import Derived.Lib.ItoaMem
import Derived.Lib.LaidTab
import Derived.Test.YtfaelejeihmgcaaDoorCards
import Derived.Test.YtfaelejeihmgcaaDoorTie
import Derived.Lib.LaidU8T
import Derived.PinnedBridge
import Derived.LaidMore
import Derived.Lay
import Derived.ProofKit
import Derived.OpenShut
import Derived.SevenTiedAt
import Derived.Stop.Joined
import Derived.Deep.DeepHandedRow
import Derived.Deep.Draws
import Derived.Deep.AppendLies
import Derived.Maps.AppendAt
import Derived.OwnWalk
import Derived.Laws.BytesArg
import Derived.Laws.MakeOwn
import Derived.Laws.OwnMore
import Derived.Deep.OwnRows
import Derived.Tactics
import Derived.Lib.ConvBytes
import Derived.Laws.Slices
import Derived.WalkKit
import Derived.KernelRfl
import Derived.RowKit3
import Derived.Deep.LoopGhost
import Derived.Deep.QuietTactic
import Derived.BigQuiet
import Derived.WideLaws
import Derived.Deep.DeepCutAuto
import Derived.Deep.CutBlock
import Derived.Deep.RegionHeld3
import Derived.Laws.Rows
import Derived.Lib.AppendStr
import Derived.ArgAppend
import Derived.Laws.IdiomCopy
import Derived.RowKit
import Derived.Test.YtfaelejeihmgcaaDoorRows
import Derived.ChangeArms
import Derived.DataReads
import Derived.DataElems
import Derived.Shelf.Strings.Builder1
import Derived.Shelf.Strings.Builder2
import Derived.Shelf.Strings.OnBuilder
import Derived.Shelf.Strings.BuilderF
import Derived.Shelf.Strings.BuilderK
import Derived.Shelf.Strings.Builder2Cap
import Derived.Shelf.Strconv.Atoi
import Derived.Shelf.Strconv.Itoa0
import Derived.Shelf.Strconv.Itoa1
import Derived.Shelf.LaysM
import Derived.Shelf.Strconv.Itoa2
import Derived.Shelf.Strconv.Itoa3
import Derived.Shelf.Strconv.AtoiErrFast
import Derived.Shelf.Strconv.ParseIntEmpty
import Derived.Shelf.Strconv.AtoiFail
import Derived.Shelf.Strconv.Clone
import Derived.Shelf.Strconv.SyntaxError
import Derived.Shelf.LaysC
import Derived.Shelf.Strconv.ToError
import Derived.Shelf.Strconv.Lower
import Derived.Shelf.Strconv.ParseUint10
import Derived.Shelf.Strconv.ParseUint10Empty
import Derived.Shelf.Strconv.ParseUint10Any
import Derived.Shelf.Strconv.ParseInt10
import Derived.Shelf.Strconv.AtoiLong
import Derived.Shelf.Strconv.AtoiInnerAll
import Derived.Shelf.Strconv.RangeError
import Derived.Shelf.Strconv.ToErrorRange
import Derived.Shelf.Strconv.AtoiAll
import Derived.Shelf.Strconv.ErrVarAll
import Derived.Shelf.Strconv.ParseUintEmpty
import Derived.Shelf.Strconv.ParseUint10b64
import Derived.Shelf.Strconv.ParseUint10b32
import Derived.Shelf.Strconv.ParseUint10b16
import Derived.Shelf.Strconv.ParseUint10b8
import Derived.Shelf.Strings.Prefix
import Derived.Shelf.Unicode.Decode
import Derived.Shelf.Unicode.DecodeAny
import Derived.Lib.AppendIntMem
import Derived.FnData
import Derived.Outline
import Derived.Tactics2
import Derived.OrdersHeld
import Derived.Laws.BitsLemmas
import Derived.Laws.StructEq
import Derived.Lib.AtoiTie
import Derived.Lib.Strings
import Derived.Lib.Slices
import Derived.Lib.Walk
import Derived.Lib.Builder
import Derived.Lib.UnsafeStr
import Derived.Laws.Externs
import Derived.Lib.DecodeNEq
import Derived.Lib.OthersKept
import Derived.Lib.Hide
import Derived.BigCall
import Derived.StillTailTactics
import Derived.BigRegion
import Derived.RegionTactic
import Derived.IntWalk
import Derived.WalkSpells
import Derived.Laws.Pointers
import Derived.Deep.RegionWith
import Derived.Test.YtfaelejeihmgcaaDoorMt0
import Derived.Test.YtfaelejeihmgcaaDoorMt1

section
namespace Go.Proofs.YtfaelejeihmgcaaDoor.Stp
open Go.RowKit Go.Proofs.YtfaelejeihmgcaaDoorW.PrintWords
def refBody (k : Nat) (t : List ByteArray) : OpV × Bool :=
  if k = 1 ∨ k = 7 ∨ k = 10 ∨ k = 14 then (zeroOp k, decide (t.length = 0))
  else if k = 8 ∨ k = 9 then (if t.length = 1 then ({ zeroOp k with key := t.headD ⟨#[]⟩ }, true) else (zeroOp 0, false))
  else if k = 12 then ({ zeroOp k with mask := (numbersT t).1 }, (numbersT t).2)
  else if k = 13 then (if (numbersT t).2 = true ∧ (numbersT t).1.length = 3 ∧ 0 ≤ (numbersT t).1.getD 2 0 ∧ (numbersT t).1.getD 2 0 ≤ 255 then ({ zeroOp k with page := (numbersT t).1.getD 0 0, at_ := (numbersT t).1.getD 1 0, x := (numbersT t).1.getD 2 0 }, true) else (zeroOp 0, false))
  else if k = 11 then (if (numbersT t).2 = true ∧ (numbersT t).1.length = 1 then ({ zeroOp k with n := (numbersT t).1.getD 0 0 }, true) else (zeroOp 0, false))
  else if k = 2 ∨ k = 3 ∨ k = 4 ∨ k = 5 ∨ k = 6 then
    (if t.length = 0 then (zeroOp 0, false) else
      if k = 2 then (if (numberT (t.headD ⟨#[]⟩)).2 = true ∧ t.tail.length = 2 then ({ zeroOp k with s := (numberT (t.headD ⟨#[]⟩)).1, key := t.tail.headD ⟨#[]⟩, val := t.tail.tail.headD ⟨#[]⟩ }, true) else (zeroOp 0, false))
      else if k = 3 then (if (numberT (t.headD ⟨#[]⟩)).2 = true ∧ t.tail.length = 1 then ({ zeroOp k with s := (numberT (t.headD ⟨#[]⟩)).1, key := t.tail.headD ⟨#[]⟩ }, true) else (zeroOp 0, false))
      else if k = 4 then ({ zeroOp k with s := (numberT (t.headD ⟨#[]⟩)).1, keys := t.tail }, (numberT (t.headD ⟨#[]⟩)).2)
      else ({ zeroOp k with s := (numberT (t.headD ⟨#[]⟩)).1 }, (numberT (t.headD ⟨#[]⟩)).2 && decide (t.tail.length = 0)))
  else (zeroOp 0, false)
theorem ref_body (x : ByteArray) (t : List ByteArray) (k : Nat) (hk : refK x 15 = k) : refStepF (x :: t) = refBody k t := by
  rw [refStepF, if_neg (by simp)]
  show refBody (refK x 15) t = _
  rw [hk]
theorem fl1 : (nameT ((1 : Nat) : Int)).2.data.toList = [] := by decide +kernel
theorem fl2 : (nameT ((2 : Nat) : Int)).2.data.toList = [115, 107, 118] := by decide +kernel
theorem fl3 : (nameT ((3 : Nat) : Int)).2.data.toList = [115, 107] := by decide +kernel
theorem fl4 : (nameT ((4 : Nat) : Int)).2.data.toList = [115, 75] := by decide +kernel
theorem fl5 : (nameT ((5 : Nat) : Int)).2.data.toList = [115] := by decide +kernel
theorem fl6 : (nameT ((6 : Nat) : Int)).2.data.toList = [115] := by decide +kernel
theorem fl7 : (nameT ((7 : Nat) : Int)).2.data.toList = [] := by decide +kernel
theorem fl8 : (nameT ((8 : Nat) : Int)).2.data.toList = [107] := by decide +kernel
theorem fl9 : (nameT ((9 : Nat) : Int)).2.data.toList = [107] := by decide +kernel
theorem fl10 : (nameT ((10 : Nat) : Int)).2.data.toList = [] := by decide +kernel
theorem fl11 : (nameT ((11 : Nat) : Int)).2.data.toList = [110] := by decide +kernel
theorem fl12 : (nameT ((12 : Nat) : Int)).2.data.toList = [77] := by decide +kernel
theorem fl13 : (nameT ((13 : Nat) : Int)).2.data.toList = [112, 97, 120] := by decide +kernel
theorem fl14 : (nameT ((14 : Nat) : Int)).2.data.toList = [] := by decide +kernel
theorem nums_len : ∀ (l : List ByteArray) (out : List Int), (numsT l out).2 = true → (numsT l out).1.length = out.length + l.length
  | [], out, _ => rfl
  | x :: l, out, h => by
    rw [numsT] at h ⊢
    by_cases hq : (numT x).2 = true
    · rw [if_pos hq] at h ⊢
      rw [nums_len l _ h]
      simp only [List.length_append, List.length_cons, List.length_nil]
      omega
    · rw [if_neg hq] at h
      cases h
theorem k_none (x : ByteArray) (t : List ByteArray) (j : Nat) (hj : j = 1 ∨ j = 7 ∨ j = 10 ∨ j = 14) (hk : refK x 15 = j) (hf : (nameT (j : Int)).2.data.toList = []) : resO (resK t j) = refResO (refStepF (x :: t)) := by
  have e : refStepF (x :: t) = (zeroOp (j : Int), decide (t.length = 0)) := by
    rw [ref_body x t _ hk, refBody]
    rw [if_pos hj]
  rw [e, resK, hf, fill_nil]
  unfold refResO
  simp only
  cases decide (t.length = 0) <;> rfl
theorem fill_M (fs : List UInt8) (o : OpV) (l : List ByteArray) : fillF (77 :: fs) o l = ((fillM l []).1, { o with mask := (fillM l []).2 }) := by
  rw [fillF, if_neg (show ¬ ((77 : UInt8).toNat : Int) = 75 by decide), if_pos (show ((77 : UInt8).toNat : Int) = 77 from rfl)]
theorem one_key (o : OpV) (x : ByteArray) : oneF o 107 x = (true, { o with key := x }) := by unfold oneF; rw [if_pos rfl]
theorem one_val (o : OpV) (x : ByteArray) : oneF o 118 x = (true, { o with val := x }) := by unfold oneF; rw [if_neg (by decide), if_pos rfl]
theorem k_key (x : ByteArray) (t : List ByteArray) (j : Nat) (hj : j = 8 ∨ j = 9) (hk : refK x 15 = j) (hf : (nameT (j : Int)).2.data.toList = [107]) : resO (resK t j) = refResO (refStepF (x :: t)) := by
  have e : refStepF (x :: t) = (if t.length = 1 then ({ zeroOp (j : Int) with key := t.headD ⟨#[]⟩ }, true) else (zeroOp 0, false)) := by
    rw [ref_body x t _ hk, refBody]
    rw [if_neg (by omega), if_pos hj]
  rw [e, resK, hf]
  match t with
  | [] => rw [fill_end _ _ _ (by decide) (by decide)]; rfl
  | [y] =>
    rw [fill_one _ _ _ _ _ (by decide) (by decide), show ((107 : UInt8).toNat : Int) = 107 from rfl, one_key, if_pos rfl, fill_nil]
    rfl
  | y :: z :: u =>
    rw [fill_one _ _ _ _ _ (by decide) (by decide), show ((107 : UInt8).toNat : Int) = 107 from rfl, one_key, if_pos rfl, fill_nil, if_neg (by simp)]
    rfl
theorem k_s (x : ByteArray) (t : List ByteArray) (j : Nat) (hj : j = 5 ∨ j = 6) (hk : refK x 15 = j) (hf : (nameT (j : Int)).2.data.toList = [115]) (hN : ∀ y ∈ t, numberT y = numT y) : resO (resK t j) = refResO (refStepF (x :: t)) := by
  have e : refStepF (x :: t) = (if t.length = 0 then (zeroOp 0, false) else ({ zeroOp (j : Int) with s := (numberT (t.headD ⟨#[]⟩)).1 }, (numberT (t.headD ⟨#[]⟩)).2 && decide (t.tail.length = 0))) := by
    rw [ref_body x t _ hk, refBody]
    rw [if_neg (by omega), if_neg (by omega), if_neg (by omega), if_neg (by omega), if_neg (by omega), if_pos (by omega), if_neg (show ¬ j = 2 by omega), if_neg (show ¬ j = 3 by omega), if_neg (show ¬ j = 4 by omega)]
  rw [e, resK, hf]
  match t, hN with
  | [], _ => rw [fill_end _ _ _ (by decide) (by decide)]; rfl
  | y :: u, hN =>
    rw [fill_one _ _ _ _ _ (by decide) (by decide), show ((115 : UInt8).toNat : Int) = 115 from rfl, one_num _ _ _ (by decide) (by decide) (by decide), if_neg (show ¬ (y :: u).length = 0 by simp)]
    simp only [List.headD_cons, List.tail_cons, hN y (by simp)]
    cases hn : (numT y).2
    · rfl
    · rw [if_pos rfl, fill_nil]
      cases u with
      | nil => rfl
      | cons z v => rfl
theorem k_sk (x : ByteArray) (t : List ByteArray) (hk : refK x 15 = 3) (hN : ∀ y ∈ t, numberT y = numT y) : resO (resK t 3) = refResO (refStepF (x :: t)) := by
  have e : refStepF (x :: t) = (if t.length = 0 then (zeroOp 0, false) else (if (numberT (t.headD ⟨#[]⟩)).2 = true ∧ t.tail.length = 1 then ({ zeroOp ((3 : Nat) : Int) with s := (numberT (t.headD ⟨#[]⟩)).1, key := t.tail.headD ⟨#[]⟩ }, true) else (zeroOp 0, false))) := by
    rw [ref_body x t _ hk, refBody]
    rw [if_neg (by omega), if_neg (by omega), if_neg (by omega), if_neg (by omega), if_neg (by omega), if_pos (by omega), if_neg (show ¬ (3 : Nat) = 2 by omega), if_pos rfl]
  rw [e, resK, fl3]
  match t, hN with
  | [], _ => rw [fill_end _ _ _ (by decide) (by decide)]; rfl
  | y :: u, hN =>
    rw [fill_one _ _ _ _ _ (by decide) (by decide), show ((115 : UInt8).toNat : Int) = 115 from rfl, one_num _ _ _ (by decide) (by decide) (by decide), if_neg (show ¬ (y :: u).length = 0 by simp)]
    simp only [List.headD_cons, List.tail_cons, hN y (by simp)]
    cases hn : (numT y).2
    · rfl
    · rw [if_pos rfl]
      cases u with
      | nil => rw [fill_end _ _ _ (by decide) (by decide)]; rfl
      | cons z v =>
        rw [fill_one _ _ _ _ _ (by decide) (by decide), show ((107 : UInt8).toNat : Int) = 107 from rfl, one_key, if_pos rfl, fill_nil]
        cases v with
        | nil => rfl
        | cons a b => rw [if_neg (show ¬ (true = true ∧ (z :: a :: b).length = 1) by simp)]; rfl
theorem k_skv (x : ByteArray) (t : List ByteArray) (hk : refK x 15 = 2) (hN : ∀ y ∈ t, numberT y = numT y) : resO (resK t 2) = refResO (refStepF (x :: t)) := by
  have e : refStepF (x :: t) = (if t.length = 0 then (zeroOp 0, false) else (if (numberT (t.headD ⟨#[]⟩)).2 = true ∧ t.tail.length = 2 then ({ zeroOp ((2 : Nat) : Int) with s := (numberT (t.headD ⟨#[]⟩)).1, key := t.tail.headD ⟨#[]⟩, val := t.tail.tail.headD ⟨#[]⟩ }, true) else (zeroOp 0, false))) := by
    rw [ref_body x t _ hk, refBody]
    rw [if_neg (by omega), if_neg (by omega), if_neg (by omega), if_neg (by omega), if_neg (by omega), if_pos (by omega), if_pos rfl]
  rw [e, resK, fl2]
  match t, hN with
  | [], _ => rw [fill_end _ _ _ (by decide) (by decide)]; rfl
  | y :: u, hN =>
    rw [fill_one _ _ _ _ _ (by decide) (by decide), show ((115 : UInt8).toNat : Int) = 115 from rfl, one_num _ _ _ (by decide) (by decide) (by decide), if_neg (show ¬ (y :: u).length = 0 by simp)]
    simp only [List.headD_cons, List.tail_cons, hN y (by simp)]
    cases hn : (numT y).2
    · rfl
    · rw [if_pos rfl]
      cases u with
      | nil => rw [fill_end _ _ _ (by decide) (by decide)]; rfl
      | cons z v =>
        rw [fill_one _ _ _ _ _ (by decide) (by decide), show ((107 : UInt8).toNat : Int) = 107 from rfl, one_key, if_pos rfl]
        cases v with
        | nil => rw [fill_end _ _ _ (by decide) (by decide)]; rfl
        | cons a b =>
          rw [fill_one _ _ _ _ _ (by decide) (by decide), show ((118 : UInt8).toNat : Int) = 118 from rfl, one_val, if_pos rfl, fill_nil]
          cases b with
          | nil => rfl
          | cons c d => rw [if_neg (show ¬ (true = true ∧ (z :: a :: c :: d).length = 2) by simp)]; rfl
theorem k_sK (x : ByteArray) (t : List ByteArray) (hk : refK x 15 = 4) (hN : ∀ y ∈ t, numberT y = numT y) : resO (resK t 4) = refResO (refStepF (x :: t)) := by
  have e : refStepF (x :: t) = (if t.length = 0 then (zeroOp 0, false) else ({ zeroOp ((4 : Nat) : Int) with s := (numberT (t.headD ⟨#[]⟩)).1, keys := t.tail }, (numberT (t.headD ⟨#[]⟩)).2)) := by
    rw [ref_body x t _ hk, refBody]
    rw [if_neg (by omega), if_neg (by omega), if_neg (by omega), if_neg (by omega), if_neg (by omega), if_pos (by omega), if_neg (show ¬ (4 : Nat) = 2 by omega), if_neg (show ¬ (4 : Nat) = 3 by omega), if_pos rfl]
  rw [e, resK, fl4]
  match t, hN with
  | [], _ => rw [fill_end _ _ _ (by decide) (by decide)]; rfl
  | y :: u, hN =>
    rw [fill_one _ _ _ _ _ (by decide) (by decide), show ((115 : UInt8).toNat : Int) = 115 from rfl, one_num _ _ _ (by decide) (by decide) (by decide), if_neg (show ¬ (y :: u).length = 0 by simp)]
    simp only [List.headD_cons, List.tail_cons, hN y (by simp)]
    cases hn : (numT y).2
    · rfl
    · rw [if_pos rfl, fillF, if_pos rfl]
      rfl
theorem k_M (x : ByteArray) (t : List ByteArray) (hk : refK x 15 = 12) (hNs : numbersT t = numsT t []) : resO (resK t 12) = refResO (refStepF (x :: t)) := by
  have e : refStepF (x :: t) = ({ zeroOp ((12 : Nat) : Int) with mask := (numsT t []).1 }, (numsT t []).2) := by
    rw [ref_body x t _ hk, refBody]
    rw [if_neg (by omega), if_neg (by omega), if_pos rfl, hNs]
  have h := fillM_nums t []
  rw [e, resK, fl12, fill_M, h.1]
  cases hq : (numsT t []).2
  · rfl
  · rw [h.2 hq, if_pos rfl]
    rfl
theorem k_n (x : ByteArray) (t : List ByteArray) (hk : refK x 15 = 11) (hNs : numbersT t = numsT t []) : resO (resK t 11) = refResO (refStepF (x :: t)) := by
  have e : refStepF (x :: t) = (if (numsT t []).2 = true ∧ (numsT t []).1.length = 1 then ({ zeroOp ((11 : Nat) : Int) with n := (numsT t []).1.getD 0 0 }, true) else (zeroOp 0, false)) := by
    rw [ref_body x t _ hk, refBody]
    rw [if_neg (by omega), if_neg (by omega), if_neg (by omega), if_neg (by omega), if_pos rfl, hNs]
  rw [e, resK, fl11]
  match t with
  | [] => rw [fill_end _ _ _ (by decide) (by decide)]; rfl
  | [y] =>
    rw [fill_one _ _ _ _ _ (by decide) (by decide), show ((110 : UInt8).toNat : Int) = 110 from rfl, one_num _ _ _ (by decide) (by decide) (by decide), numsT]
    cases hn : (numT y).2
    · rfl
    · rfl
  | y :: z :: u =>
    have hl := nums_len (y :: z :: u) []
    rw [fill_one _ _ _ _ _ (by decide) (by decide), show ((110 : UInt8).toNat : Int) = 110 from rfl, one_num _ _ _ (by decide) (by decide) (by decide), if_neg (show ¬ ((numsT (y :: z :: u) []).2 = true ∧ (numsT (y :: z :: u) []).1.length = 1) from fun h => by have := hl h.1; simp only [List.length_cons, List.length_nil] at this; omega)]
    cases hn : (numT y).2
    · rfl
    · rfl
theorem fill_num (c : UInt8) (fs : List UInt8) (o : OpV) (y : ByteArray) (u : List ByteArray) (h1 : (c.toNat : Int) ≠ 75) (h2 : (c.toNat : Int) ≠ 77) (h3 : (c.toNat : Int) ≠ 107) (h4 : (c.toNat : Int) ≠ 118) (h5 : (c.toNat : Int) ≠ 120) :
    fillF (c :: fs) o (y :: u) = if (numT y).2 = true then fillF fs (setNum o (c.toNat : Int) (numT y).1) u else (false, o) := by
  rw [fill_one _ _ _ _ _ h1 h2, one_num _ _ _ h3 h4 h5]
  by_cases h : (numT y).2 = true
  · simp only [if_pos h]
    rfl
  · simp only [if_neg h]
    rfl
theorem fill_x (o : OpV) (y : ByteArray) (u : List ByteArray) : fillF [120] o (y :: u) = if (numT y).2 = true ∧ 0 ≤ (numT y).1 ∧ (numT y).1 ≤ 255 then fillF [] { o with x := (numT y).1 } u else (false, o) := by
  rw [fill_one _ _ _ _ _ (by decide) (by decide), show ((120 : UInt8).toNat : Int) = 120 from rfl, one_x]
  by_cases h : (numT y).2 = true ∧ 0 ≤ (numT y).1 ∧ (numT y).1 ≤ 255
  · simp only [if_pos h]
    rfl
  · simp only [if_neg h]
    rfl
theorem k_pax (x : ByteArray) (t : List ByteArray) (hk : refK x 15 = 13) (hNs : numbersT t = numsT t []) : resO (resK t 13) = refResO (refStepF (x :: t)) := by
  have e : refStepF (x :: t) = (if (numsT t []).2 = true ∧ (numsT t []).1.length = 3 ∧ 0 ≤ (numsT t []).1.getD 2 0 ∧ (numsT t []).1.getD 2 0 ≤ 255 then ({ zeroOp ((13 : Nat) : Int) with page := (numsT t []).1.getD 0 0, at_ := (numsT t []).1.getD 1 0, x := (numsT t []).1.getD 2 0 }, true) else (zeroOp 0, false)) := by
    rw [ref_body x t _ hk, refBody]
    rw [if_neg (by omega), if_neg (by omega), if_neg (by omega), if_pos rfl, hNs]
  have hl := nums_len t []
  rw [e, resK, fl13]
  have no : t.length ≠ 3 → refResO (if (numsT t []).2 = true ∧ (numsT t []).1.length = 3 ∧ 0 ≤ (numsT t []).1.getD 2 0 ∧ (numsT t []).1.getD 2 0 ≤ 255 then ({ zeroOp ((13 : Nat) : Int) with page := (numsT t []).1.getD 0 0, at_ := (numsT t []).1.getD 1 0, x := (numsT t []).1.getD 2 0 }, true) else (zeroOp 0, false)) = (zeroOp 0, 2) := fun h => by
    rw [if_neg (fun h2 => h (by have := hl h2.1; rw [h2.2.1] at this; simp only [List.length_nil] at this; omega))]
    rfl
  match t, no with
  | [], no =>
    rw [no (by simp), fill_end _ _ _ (by decide) (by decide)]
    rfl
  | [a], no =>
    rw [no (by simp), fill_num 112 _ _ _ _ (by decide) (by decide) (by decide) (by decide) (by decide), fill_end _ _ _ (by decide) (by decide)]
    cases (numT a).2 <;> rfl
  | [a, b], no =>
    rw [no (by simp), fill_num 112 _ _ _ _ (by decide) (by decide) (by decide) (by decide) (by decide), fill_num 97 _ _ _ _ (by decide) (by decide) (by decide) (by decide) (by decide), fill_end _ _ _ (by decide) (by decide)]
    cases (numT a).2 <;> cases (numT b).2 <;> rfl
  | [a, b, c], _ =>
    rw [fill_num 112 _ _ _ _ (by decide) (by decide) (by decide) (by decide) (by decide), fill_num 97 _ _ _ _ (by decide) (by decide) (by decide) (by decide) (by decide), fill_x, fill_nil]
    by_cases ha : (numT a).2 = true
    · by_cases hb : (numT b).2 = true
      · by_cases hc : (numT c).2 = true
        · have hn : numsT [a, b, c] [] = ([(numT a).1, (numT b).1, (numT c).1], true) := by rw [numsT, if_pos ha, numsT, if_pos hb, numsT, if_pos hc]; rfl
          rw [hn, if_pos ha, if_pos hb]
          by_cases h : 0 ≤ (numT c).1 ∧ (numT c).1 ≤ 255
          · rw [if_pos (show (numT c).2 = true ∧ 0 ≤ (numT c).1 ∧ (numT c).1 ≤ 255 from ⟨hc, h⟩)]
            refine Eq.trans ?_ (congrArg refResO (if_pos (show true = true ∧ [(numT a).1, (numT b).1, (numT c).1].length = 3 ∧ 0 ≤ [(numT a).1, (numT b).1, (numT c).1].getD 2 0 ∧ [(numT a).1, (numT b).1, (numT c).1].getD 2 0 ≤ 255 from ⟨rfl, rfl, h⟩)).symm)
            rfl
          · rw [if_neg (show ¬ ((numT c).2 = true ∧ 0 ≤ (numT c).1 ∧ (numT c).1 ≤ 255) from fun e => h e.2)]
            refine Eq.trans ?_ (congrArg refResO (if_neg (show ¬ (true = true ∧ [(numT a).1, (numT b).1, (numT c).1].length = 3 ∧ 0 ≤ [(numT a).1, (numT b).1, (numT c).1].getD 2 0 ∧ [(numT a).1, (numT b).1, (numT c).1].getD 2 0 ≤ 255) from fun e => h e.2.2)).symm)
            rfl
        · have hn : numsT [a, b, c] [] = ([], false) := by rw [numsT, if_pos ha, numsT, if_pos hb, numsT, if_neg hc]
          rw [hn, if_pos ha, if_pos hb, if_neg (show ¬ ((numT c).2 = true ∧ 0 ≤ (numT c).1 ∧ (numT c).1 ≤ 255) from fun e => hc e.1)]
          rfl
      · have hn : numsT [a, b, c] [] = ([], false) := by rw [numsT, if_pos ha, numsT, if_neg hb]
        rw [hn, if_pos ha, if_neg hb]
        rfl
    · have hn : numsT [a, b, c] [] = ([], false) := by rw [numsT, if_neg ha]
      rw [hn, if_neg ha]
      rfl
  | a :: b :: c :: d :: u, no =>
    rw [no (by simp), fill_num 112 _ _ _ _ (by decide) (by decide) (by decide) (by decide) (by decide), fill_num 97 _ _ _ _ (by decide) (by decide) (by decide) (by decide) (by decide), fill_x, fill_nil]
    by_cases ha : (numT a).2 = true
    · by_cases hb : (numT b).2 = true
      · rw [if_pos ha, if_pos hb]
        by_cases h : (numT c).2 = true ∧ 0 ≤ (numT c).1 ∧ (numT c).1 ≤ 255
        · rw [if_pos h]
          rfl
        · rw [if_neg h]
          rfl
      · rw [if_pos ha, if_neg hb]
        rfl
    · rw [if_neg ha]
      rfl
/-- THE TWO READINGS OF WORDS SAY THE SAME -/
theorem step_same (l : List ByteArray) (hs : ∀ x ∈ l, x.size ≤ 1099511627776) (hl : l.length ≤ 1048576) : resO (parseK l 14 1) = refResO (refStepF l) := by
  cases l with
  | nil => rw [parseK_nil]; rfl
  | cons x t =>
    have hN : ∀ y ∈ t, numberT y = numT y := fun y hy => numberT_eq y (hs y (List.mem_cons_of_mem _ hy))
    have hNs : numbersT t = numsT t [] := numbersT_eq t (fun y hy => hs y (List.mem_cons_of_mem _ hy)) (by simp only [List.length_cons] at hl; omega)
    by_cases h : ∃ j, 1 ≤ j ∧ j < 15 ∧ nameW j = x.toList
    · obtain ⟨j, h1, h2, h3⟩ := h
      have hP := parseK_hit x t j h3 14 1 h1 (by omega) (fun i h4 h5 e => by
        have := words_apart ⟨i, by omega⟩ ⟨j, h2⟩ h4 h1 (e.trans h3.symm)
        have := congrArg Fin.val this
        simp only at this
        omega)
      have hR : refK x 15 = j := refK_hit x j h1 ((words_same ⟨j, h2⟩ h1).symm.trans h3) 15 h2 (fun i h4 h5 e => by
        have := words_apart ⟨i, h5⟩ ⟨j, h2⟩ (by show 1 ≤ i; omega) h1 ((words_same ⟨i, h5⟩ (by show 1 ≤ i; omega)).trans (e.trans h3.symm))
        have := congrArg Fin.val this
        simp only at this
        omega)
      rw [hP]
      rcases (by omega : j = 1 ∨ j = 2 ∨ j = 3 ∨ j = 4 ∨ j = 5 ∨ j = 6 ∨ j = 7 ∨ j = 8 ∨ j = 9 ∨ j = 10 ∨ j = 11 ∨ j = 12 ∨ j = 13 ∨ j = 14) with rfl | rfl | rfl | rfl | rfl | rfl | rfl | rfl | rfl | rfl | rfl | rfl | rfl | rfl
      · exact k_none x t 1 (by decide) hR fl1
      · exact k_skv x t hR hN
      · exact k_sk x t hR hN
      · exact k_sK x t hR hN
      · exact k_s x t 5 (by decide) hR fl5 hN
      · exact k_s x t 6 (by decide) hR fl6 hN
      · exact k_none x t 7 (by decide) hR fl7
      · exact k_key x t 8 (by decide) hR fl8
      · exact k_key x t 9 (by decide) hR fl9
      · exact k_none x t 10 (by decide) hR fl10
      · exact k_n x t hR hNs
      · exact k_M x t hR hNs
      · exact k_pax x t hR hNs
      · exact k_none x t 14 (by decide) hR fl14
    · have hm : ∀ i, 1 ≤ i → i < 15 → nameW i ≠ x.toList := fun i h1 h2 e => h ⟨i, h1, h2, e⟩
      rw [parseK_miss x t 14 1 (fun i h1 h2 => hm i h1 (by omega))]
      have hR : refK x 15 = 0 := refK_miss x 15 (fun i h1 h2 e => hm i h1 h2 ((words_same ⟨i, h2⟩ h1).trans e))
      rw [ref_body x t 0 hR]
      rfl
theorem parse_same (l : List ByteArray) (e : Int) (hs : ∀ x ∈ l, x.size ≤ 1099511627776) (hl : l.length ≤ 1048576) : parseO l e = refParseO l e := by
  unfold parseO refParseO
  rw [step_same l hs hl]
end Go.Proofs.YtfaelejeihmgcaaDoor.Stp
end

section
namespace Go.Proofs.YtfaelejeihmgcaaDoor.Stp
open Go.RowKit Go.Proofs.YtfaelejeihmgcaaDoorW.PrintWords
theorem texts_l0 (l : List ByteArray) (hl : l.length ≤ 1048576) : ∀ (d k i : Nat), l.length - i = d → i ≤ l.length → d < k → cachepotbook_SameTexts.l0 k l l (i : Int) = some true := by
  intro d
  induction d with
  | zero =>
    intro k i hd hi hk
    obtain ⟨k, rfl⟩ : ∃ m, k = m + 1 := ⟨k - 1, by omega⟩
    rw [cachepotbook_SameTexts.l0, if_neg (by omega)]
  | succ d ih =>
    intro k i hd hi hk
    obtain ⟨k, rfl⟩ : ∃ m, k = m + 1 := ⟨k - 1, by omega⟩
    rw [cachepotbook_SameTexts.l0, if_pos (by omega), if_pos (by omega), if_pos (by omega), if_pos rfl, w64 (v := (i : Int) + 1) (by omega) (by omega)]
    exact ih k (i + 1) (by omega) (by omega) (by omega)
end Go.Proofs.YtfaelejeihmgcaaDoor.Stp
end

section
namespace Go.Proofs.YtfaelejeihmgcaaDoor.Stp
open Go.RowKit Go.Proofs.YtfaelejeihmgcaaDoorW.PrintWords
def aliveA : ByteArray := ⟨#[112, 117, 116, 32, 49, 32, 97, 32, 34, 98, 32, 99, 34]⟩
def aliveB : ByteArray := ⟨#[102, 117, 115, 101, 32, 48, 49]⟩
def wordsA : List ByteArray := [⟨#[112, 117, 116]⟩, ⟨#[49]⟩, ⟨#[97]⟩, ⟨#[98, 32, 99]⟩]
def wordsB : List ByteArray := [⟨#[102, 117, 115, 101]⟩, ⟨#[48, 49]⟩]
theorem splitA : Wd.word_Split.f 100 aliveA = some (wordsA, 0) := by decide +kernel
theorem splitB : Wd.word_Split.f 100 aliveB = some (wordsB, 0) := by decide +kernel
theorem smallA : ∀ x ∈ wordsA, x.size ≤ 1099511627776 := by
  intro x hx
  have : wordsA.all (fun x => decide (x.size ≤ 1099511627776)) = true := by decide +kernel
  exact of_decide_eq_true (List.all_eq_true.1 this x hx)
theorem smallB : ∀ x ∈ wordsB, x.size ≤ 1099511627776 := by
  intro x hx
  have : wordsB.all (fun x => decide (x.size ≤ 1099511627776)) = true := by decide +kernel
  exact of_decide_eq_true (List.all_eq_true.1 this x hx)
theorem parseA : parseO wordsA 0 = ({ zeroOp 2 with s := 1, key := ⟨#[97]⟩, val := ⟨#[98, 32, 99]⟩ }, 0) := by
  rw [parse_same wordsA 0 smallA (by decide)]
  kernel_rfl
theorem parseB : parseO wordsB 0 = (zeroOp 0, 2) := by
  rw [parse_same wordsB 0 smallB (by decide)]
  kernel_rfl
end Go.Proofs.YtfaelejeihmgcaaDoor.Stp
end

section
namespace Go.Proofs.YtfaelejeihmgcaaDoor.Stp
open Go.RowKit Go.Proofs.YtfaelejeihmgcaaDoorW.PrintWords Go.Proofs.YtfaelejeihmgcaaDoorW.PrintLast
theorem parsed_A (w : World) (hT : Tabs w) : Calls Tryd.prog 42 #[.string ⟨#[112, 117, 116, 32, 49, 32, 97, 32, 34, 98, 32, 99, 34]⟩] w fun e w' => ∃ Ak ck Am cm, e = .returned (.tuple #[.agg #[.int .i64 2, .int .i64 1, .string ⟨#[97]⟩, .string ⟨#[98, 32, 99]⟩, .slice Ak 0 ck, .int .i64 0, .slice Am 0 cm, .int .i64 0, .int .i64 0, .int .i64 0], .int .i64 0]) ∧ Below w.heap.size w w' := by
  have h := step_Parse_walk 100 aliveA wordsA 0 w splitA (by decide) smallA hT
  rw [parseA] at h
  refine h.mono ?_
  rintro e w' ⟨vk, vm, he, hk, hm, hb⟩
  obtain ⟨Ak, ck, ek⟩ := Kd.R_slice hk
  obtain ⟨Am, cm, em⟩ := Kd.R_slice hm
  subst ek
  subst em
  exact ⟨Ak, ck, Am, cm, he, hb⟩
theorem parsed_B (w : World) (hT : Tabs w) : Calls Tryd.prog 42 #[.string ⟨#[102, 117, 115, 101, 32, 48, 49]⟩] w fun e w' => ∃ Ak ck Am cm, e = .returned (.tuple #[.agg #[.int .i64 0, .int .i64 0, .string ⟨#[]⟩, .string ⟨#[]⟩, .slice Ak 0 ck, .int .i64 0, .slice Am 0 cm, .int .i64 0, .int .i64 0, .int .i64 0], .int .i64 2]) ∧ Below w.heap.size w w' := by
  have h := step_Parse_walk 100 aliveB wordsB 0 w splitB (by decide) smallB hT
  rw [parseB] at h
  refine h.mono ?_
  rintro e w' ⟨vk, vm, he, hk, hm, hb⟩
  obtain ⟨Ak, ck, ek⟩ := Kd.R_slice hk
  obtain ⟨Am, cm, em⟩ := Kd.R_slice hm
  subst ek
  subst em
  exact ⟨Ak, ck, Am, cm, he, hb⟩
set_option maxHeartbeats 16000000 in
set_option maxRecDepth 100000 in
theorem alive_walk (w : World) (hT : Tabs w) : Calls Tryd.prog 44 #[] w fun e w' => e = .returned (.bool true) ∧ Below w.heap.size w w' := by
  go_enter Tryd.func44, Tryd.ntmps44
  go_wp2_with fail
  refine (parsed_A w hT).mono ?_
  rintro en w1 ⟨Ak, ck, Am, cm, rfl, hb1⟩
  go_upto_region 2 with (fail)
  change Code.wp _ _ _ _ (w1.alloc (.cells #[.int .i64 2, .int .i64 1, .string ⟨#[97]⟩, .string ⟨#[98, 32, 99]⟩, .slice Ak 0 ck, .int .i64 0, .slice Am 0 cm, .int .i64 0, .int .i64 0, .int .i64 0] 61))
  obtain ⟨O, hO⟩ : ∃ O : Obj, O = .cells #[.int .i64 2, .int .i64 1, .string ⟨#[97]⟩, .string ⟨#[98, 32, 99]⟩, .slice Ak 0 ck, .int .i64 0, .slice Am 0 cm, .int .i64 0, .int .i64 0, .int .i64 0] 61 := ⟨_, rfl⟩
  rw [← hO]
  have hz2 : (w1.alloc O).heap[w1.heap.size]? = some (.cells #[.int .i64 2, .int .i64 1, .string ⟨#[97]⟩, .string ⟨#[98, 32, 99]⟩, .slice Ak 0 ck, .int .i64 0, .slice Am 0 cm, .int .i64 0, .int .i64 0, .int .i64 0] 61) := (heap_alloc_new w1 O).trans (by rw [hO])
  have hb2 := below_alloc hb1 O
  have hlt : w1.heap.size < (w1.alloc O).heap.size := by simp
  clear hO hb1
  generalize w1.alloc O = w2 at hz2 hb2 hlt ⊢
  have hT2 := hT.below hb2
  go_wp2_with fail
  refine (parsed_B w2 hT2).mono ?_
  rintro en w3 ⟨Bk, dk, Bm, dm, rfl, hb3⟩
  have hz3 := (hb3.block w1.heap.size hlt).trans hz2
  have hb4 := below_then hb2 hb2.size hb3
  clear hz2 hb2 hb3 hT2 hT
  go_upto_region 3 with (fail)
  change Code.wp _ _ _ _ (w3.alloc (.cells #[.int .i64 0, .int .i64 0, .string ⟨#[]⟩, .string ⟨#[]⟩, .slice Bk 0 dk, .int .i64 0, .slice Bm 0 dm, .int .i64 0, .int .i64 0, .int .i64 0] 61))
  generalize (Obj.cells #[.int .i64 0, .int .i64 0, .string ⟨#[]⟩, .string ⟨#[]⟩, .slice Bk 0 dk, .int .i64 0, .slice Bm 0 dm, .int .i64 0, .int .i64 0, .int .i64 0] 61) = O2
  have hz5 := (Lib.alloc_old w3 O2 _ (Array.getElem?_eq_some_iff.1 hz3).1).trans hz3
  have hb5 := below_alloc hb4 O2
  clear hz3 hb4
  generalize w3.alloc O2 = w5 at hz5 hb5 ⊢
  have r0 : w5.cell? ⟨w1.heap.size, 0, none⟩ = some (.int .i64 2) := Lib.cell_of_heap hz5 0
  have r1 : w5.cell? ⟨w1.heap.size, 1, none⟩ = some (.int .i64 1) := Lib.cell_of_heap hz5 1
  have r2 : w5.cell? ⟨w1.heap.size, 2, none⟩ = some (.string ⟨#[97]⟩) := Lib.cell_of_heap hz5 2
  have r3 : w5.cell? ⟨w1.heap.size, 3, none⟩ = some (.string ⟨#[98, 32, 99]⟩) := Lib.cell_of_heap hz5 3
  have HB := Lib.hid hb5
  clear hz5 hb5
  go_wp2
  go_ret
  exact ⟨rfl, HB.out⟩
end Go.Proofs.YtfaelejeihmgcaaDoor.Stp
end

section
namespace Go.Proofs.YtfaelejeihmgcaaDoor.Wd
open Go.RowKit Go.Proofs.YtfaelejeihmgcaaDoorW.PrintWords Go.Proofs.YtfaelejeihmgcaaDoorW.PrintLast
set_option maxRecDepth 100000 in
theorem and31 : ∀ x : Fin 256, Go.bits .and .u8 ((x.val : Nat) : Int) 31 = ((x.val % 32 : Nat) : Int) := by decide
set_option maxRecDepth 100000 in
theorem and15 : ∀ x : Fin 256, Go.bits .and .u8 ((x.val : Nat) : Int) 15 = ((x.val % 16 : Nat) : Int) := by decide
set_option maxRecDepth 100000 in
theorem and7 : ∀ x : Fin 256, Go.bits .and .u8 ((x.val : Nat) : Int) 7 = ((x.val % 8 : Nat) : Int) := by decide
set_option maxRecDepth 100000 in
theorem and63 : ∀ x : Fin 256, Go.bits .and .u8 ((x.val : Nat) : Int) 63 = ((x.val % 64 : Nat) : Int) := by decide
theorem follows_f (s : ByteArray) (i : Nat) (lo hi : Int) : cachepotref1_follows.f s (i : Int) lo hi = some (decide (i < s.size ∧ lo ≤ ((s.get! i).toNat : Int) ∧ ((s.get! i).toNat : Int) ≤ hi)) := by
  unfold cachepotref1_follows.f
  have e : bt s (i : Int) = ((s.get! i).toNat : Int) := by rw [bt_get]; rfl
  rw [e]
  by_cases h1 : i < s.size
  · rw [if_pos (by omega), if_pos (by omega)]
    by_cases h2 : ((s.get! i).toNat : Int) ≥ lo
    · rw [if_pos h2]
      congr 1
      rw [decide_eq_decide]
      exact ⟨fun h => ⟨h1, h2, h⟩, fun h => h.2.2⟩
    · rw [if_neg h2]
      congr 1
      rw [eq_comm, decide_eq_false_iff_not]
      exact fun h => h2 h.2.1
  · rw [if_neg (by omega)]
    congr 1
    rw [eq_comm, decide_eq_false_iff_not]
    exact fun h => h1 h.1
theorem w64 (x : Int) (h0 : -9223372036854775808 ≤ x) (h1 : x ≤ 9223372036854775807) : wrap64 x = x := by unfold wrap64; omega
/-- the shape of the reference's Rune, in numbers: n bytes are left, b0 .. b3 stand there, L and H bound the second -/
def refN (n b0 b1 b2 b3 L H : Nat) : Nat × Nat :=
  if b0 < 128 then (b0, 1)
  else if (194 ≤ b0 ∧ b0 ≤ 223) ∧ (1 < n ∧ 128 ≤ b1 ∧ b1 ≤ 191) then (b0 % 32 * 64 + b1 % 64, 2)
  else if (224 ≤ b0 ∧ b0 ≤ 239) ∧ (1 < n ∧ L ≤ b1 ∧ b1 ≤ H) ∧ (2 < n ∧ 128 ≤ b2 ∧ b2 ≤ 191) then (b0 % 16 * 4096 + b1 % 64 * 64 + b2 % 64, 3)
  else if (240 ≤ b0 ∧ b0 ≤ 244) ∧ (1 < n ∧ L ≤ b1 ∧ b1 ≤ H) ∧ (2 < n ∧ 128 ≤ b2 ∧ b2 ≤ 191) ∧ (3 < n ∧ 128 ≤ b3 ∧ b3 ≤ 191) then (b0 % 8 * 262144 + b1 % 64 * 4096 + b2 % 64 * 64 + b3 % 64, 4)
  else (65533, 1)
def LowOk (b0 L : Nat) : Prop := (b0 = 224 ∧ L = 160) ∨ (b0 = 240 ∧ L = 144) ∨ (b0 ≠ 224 ∧ b0 ≠ 240 ∧ L = 128)
def HighOk (b0 H : Nat) : Prop := (b0 = 237 ∧ H = 159) ∨ (b0 = 244 ∧ H = 143) ∨ (b0 ≠ 237 ∧ b0 ≠ 244 ∧ H = 191)
set_option maxHeartbeats 4000000 in
set_option maxRecDepth 100000 in
theorem refN_eq (n b0 b1 b2 b3 L H : Nat) (h0 : b0 < 256) (h1 : b1 < 256) (h2 : b2 < 256) (h3 : b3 < 256) (hL : LowOk b0 L) (hH : HighOk b0 H) : refN n b0 b1 b2 b3 L H = Lib.decodeN n b0 b1 b2 b3 := by
  unfold refN Lib.decodeN
  unfold LowOk at hL
  unfold HighOk at hH
  by_cases c0 : b0 < 128
  · rw [if_pos c0, if_pos c0]
  rw [if_neg c0, if_neg c0]
  by_cases c1 : (194 ≤ b0 ∧ b0 ≤ 223) ∧ (1 < n ∧ 128 ≤ b1 ∧ b1 ≤ 191)
  · rw [if_pos c1, if_pos (by omega), if_pos (by omega)]
  rw [if_neg c1]
  by_cases d1 : b0 / 32 = 6 ∧ (1 < n ∧ b1 / 64 = 2)
  · rw [if_pos d1, if_neg (by omega), if_neg (by omega), if_neg (by omega)]
  rw [if_neg d1]
  by_cases d2 : b0 / 16 = 14 ∧ (1 < n ∧ b1 / 64 = 2) ∧ (2 < n ∧ b2 / 64 = 2)
  · rw [if_pos d2]
    by_cases c2 : (224 ≤ b0 ∧ b0 ≤ 239) ∧ (1 < n ∧ L ≤ b1 ∧ b1 ≤ H) ∧ (2 < n ∧ 128 ≤ b2 ∧ b2 ≤ 191)
    · rw [if_pos c2, if_pos (by omega)]
    · rw [if_neg c2, if_neg (by omega), if_neg (by omega)]
  rw [if_neg d2, if_neg (by omega)]
  by_cases d3 : b0 / 8 = 30 ∧ (1 < n ∧ b1 / 64 = 2) ∧ (2 < n ∧ b2 / 64 = 2) ∧ (3 < n ∧ b3 / 64 = 2)
  · rw [if_pos d3]
    by_cases c3 : (240 ≤ b0 ∧ b0 ≤ 244) ∧ (1 < n ∧ L ≤ b1 ∧ b1 ≤ H) ∧ (2 < n ∧ 128 ≤ b2 ∧ b2 ≤ 191) ∧ (3 < n ∧ 128 ≤ b3 ∧ b3 ≤ 191)
    · rw [if_pos c3, if_pos (by omega)]
    · rw [if_neg c3, if_neg (by omega)]
  rw [if_neg d3, if_neg (by omega)]
theorem Rune_j0 (k : Nat) (s : ByteArray) (x : Int) (b0 : Nat) : ∃ L H : Nat, LowOk b0 L ∧ HighOk b0 H ∧ (224 ≤ b0 → cachepotref1_Rune.j0 (k + 1) s x (b0 : Int) = cachepotref1_Rune.j1 k s x (b0 : Int) (L : Int) (H : Int)) ∧ (b0 < 224 → cachepotref1_Rune.j0 (k + 1) s x (b0 : Int) = cachepotref1_Rune.j1 k s x (b0 : Int) 128 191) := by
  rw [cachepotref1_Rune.j0]
  by_cases x1 : b0 = 224
  · subst x1; exact ⟨160, 191, by unfold LowOk; omega, by unfold HighOk; omega, fun _ => rfl, fun h => by omega⟩
  by_cases x2 : b0 = 237
  · subst x2; exact ⟨128, 159, by unfold LowOk; omega, by unfold HighOk; omega, fun _ => rfl, fun h => by omega⟩
  by_cases x3 : b0 = 240
  · subst x3; exact ⟨144, 191, by unfold LowOk; omega, by unfold HighOk; omega, fun _ => rfl, fun h => by omega⟩
  by_cases x4 : b0 = 244
  · subst x4; exact ⟨128, 143, by unfold LowOk; omega, by unfold HighOk; omega, fun _ => rfl, fun h => by omega⟩
  rw [if_neg (by omega), if_neg (by omega), if_neg (by omega), if_neg (by omega)]
  exact ⟨128, 191, by unfold LowOk; omega, by unfold HighOk; omega, fun _ => rfl, fun _ => rfl⟩
def refY (n b0 b1 b2 b3 L H y32 y16 y8 y1 y2 y3 : Nat) : Nat × Nat :=
  if b0 < 128 then (b0, 1)
  else if (194 ≤ b0 ∧ b0 ≤ 223) ∧ (1 < n ∧ 128 ≤ b1 ∧ b1 ≤ 191) then (y32 * 64 + y1, 2)
  else if (224 ≤ b0 ∧ b0 ≤ 239) ∧ (1 < n ∧ L ≤ b1 ∧ b1 ≤ H) ∧ (2 < n ∧ 128 ≤ b2 ∧ b2 ≤ 191) then (y16 * 4096 + y1 * 64 + y2, 3)
  else if (240 ≤ b0 ∧ b0 ≤ 244) ∧ (1 < n ∧ L ≤ b1 ∧ b1 ≤ H) ∧ (2 < n ∧ 128 ≤ b2 ∧ b2 ≤ 191) ∧ (3 < n ∧ 128 ≤ b3 ∧ b3 ≤ 191) then (y8 * 262144 + y1 * 4096 + y2 * 64 + y3, 4)
  else (65533, 1)
set_option maxHeartbeats 4000000 in
set_option maxRecDepth 100000 in
theorem Rune_core (k : Nat) (s : ByteArray) (i : Nat) (hi : i < s.size) (hs : s.size ≤ 1099511627776) (b0 b1 b2 b3 L H y32 y16 y8 y1 y2 y3 : Nat)
    (e0 : Aside0 (bt s (i : Int) = (b0 : Int))) (e1 : Aside0 (bt s ((i + 1 : Nat) : Int) = (b1 : Int))) (e2 : Aside0 (bt s ((i + 2 : Nat) : Int) = (b2 : Int))) (e3 : Aside0 (bt s ((i + 3 : Nat) : Int) = (b3 : Int)))
    (f1 : ∀ lo hi : Int, cachepotref1_follows.f s ((i + 1 : Nat) : Int) lo hi = some (decide (i + 1 < s.size ∧ lo ≤ (b1 : Int) ∧ (b1 : Int) ≤ hi)))
    (f2 : ∀ lo hi : Int, cachepotref1_follows.f s ((i + 2 : Nat) : Int) lo hi = some (decide (i + 2 < s.size ∧ lo ≤ (b2 : Int) ∧ (b2 : Int) ≤ hi)))
    (f3 : ∀ lo hi : Int, cachepotref1_follows.f s ((i + 3 : Nat) : Int) lo hi = some (decide (i + 3 < s.size ∧ lo ≤ (b3 : Int) ∧ (b3 : Int) ≤ hi)))
    (hj0 : Aside0 (224 ≤ b0 → cachepotref1_Rune.j0 (k + 3) s (i : Int) (b0 : Int) = cachepotref1_Rune.j1 (k + 2) s (i : Int) (b0 : Int) (L : Int) (H : Int)))
    (hj0' : Aside0 (b0 < 224 → cachepotref1_Rune.j0 (k + 3) s (i : Int) (b0 : Int) = cachepotref1_Rune.j1 (k + 2) s (i : Int) (b0 : Int) 128 191))
    (a31 : Aside0 (Go.bits .and .u8 (b0 : Int) 31 = (y32 : Int))) (a15 : Aside0 (Go.bits .and .u8 (b0 : Int) 15 = (y16 : Int))) (a7 : Aside0 (Go.bits .and .u8 (b0 : Int) 7 = (y8 : Int)))
    (m1 : Aside0 (Go.bits .and .u8 (b1 : Int) 63 = (y1 : Int))) (m2 : Aside0 (Go.bits .and .u8 (b2 : Int) 63 = (y2 : Int))) (m3 : Aside0 (Go.bits .and .u8 (b3 : Int) 63 = (y3 : Int)))
    (h0 : b0 < 256) (q0 : y32 < 32) (q1 : y16 < 16) (q2 : y8 < 8) (q3 : y1 < 64) (q4 : y2 < 64) (q5 : y3 < 64) :
    cachepotref1_Rune.f (k + 3) s (i : Int) = some (((refY (s.size - i) b0 b1 b2 b3 L H y32 y16 y8 y1 y2 y3).1 : Int), ((refY (s.size - i) b0 b1 b2 b3 L H y32 y16 y8 y1 y2 y3).2 : Int)) := by
  have w1 : Aside0 (wrap64 ((i : Int) + 1) = ((i + 1 : Nat) : Int)) := ⟨by
    have e := w64 ((i : Int) + 1) (by omega) (by omega)
    rw [e]
    rfl⟩
  have w2 : Aside0 (wrap64 ((i : Int) + 2) = ((i + 2 : Nat) : Int)) := ⟨by
    have e := w64 ((i : Int) + 2) (by omega) (by omega)
    rw [e]
    rfl⟩
  have w3 : Aside0 (wrap64 ((i : Int) + 3) = ((i + 3 : Nat) : Int)) := ⟨by
    have e := w64 ((i : Int) + 3) (by omega) (by omega)
    rw [e]
    rfl⟩
  unfold cachepotref1_Rune.f
  rw [if_pos (by omega), if_pos (by omega), e0.out]
  by_cases c0 : b0 < 128
  · rw [if_pos (by omega), w64 (b0 : Int) (by omega) (by omega), refY, if_pos c0]
    rfl
  rw [if_neg (by omega)]
  -- a lead byte of three or four, or none
  have hno : ∀ x l h : Int, b0 < 240 → cachepotref1_Rune.j2 (k + 1) s x (b0 : Int) l h false = some (65533, 1) := by
    intro x l h hb
    rw [cachepotref1_Rune.j2, if_neg (by simp), if_neg (by omega)]
  have hj : ¬ ((194 ≤ b0 ∧ b0 ≤ 223) ∧ (1 < s.size - i ∧ 128 ≤ b1 ∧ b1 ≤ 191)) → cachepotref1_Rune.j0 (k + 3) s (i : Int) (b0 : Int) = some (((refY (s.size - i) b0 b1 b2 b3 L H y32 y16 y8 y1 y2 y3).1 : Int), ((refY (s.size - i) b0 b1 b2 b3 L H y32 y16 y8 y1 y2 y3).2 : Int)) := by
    intro c1
    rw [refY, if_neg c0, if_neg c1]
    by_cases x0 : b0 < 224
    · rw [hj0'.out x0, cachepotref1_Rune.j1, if_neg (by omega), hno _ _ _ (by omega), if_neg (by omega), if_neg (by omega)]
      rfl
    rw [hj0.out (by omega), cachepotref1_Rune.j1, if_pos (by omega)]
    by_cases x1 : b0 ≤ 239
    · rw [if_pos (by omega), w1.out, f1, w2.out]
      simp only [Option.bind_some, decide_eq_true_eq]
      by_cases z1 : i + 1 < s.size ∧ ((L : Int) ≤ (b1 : Int) ∧ (b1 : Int) ≤ (H : Int))
      · rw [if_pos z1, f2]
        simp only [Option.bind_some]
        by_cases z2 : i + 2 < s.size ∧ ((128 : Int) ≤ (b2 : Int) ∧ (b2 : Int) ≤ 191)
        · rw [decide_eq_true z2, cachepotref1_Rune.j2, if_pos rfl, w1.out, w2.out, if_pos (by omega), if_pos (by omega), if_pos (by omega), if_pos (by omega), e1.out, e2.out, a15.out, m1.out, m2.out, if_pos (by omega)]
          simp (disch := omega) only [w64]
          simp only [Option.some.injEq, Prod.mk.injEq]
          omega
        · rw [decide_eq_false z2, hno _ _ _ (by omega), if_neg (by omega), if_neg (by omega)]
          rfl
      · rw [if_neg z1, hno _ _ _ (by omega), if_neg (by omega), if_neg (by omega)]
        rfl
    · rw [if_neg (by omega), cachepotref1_Rune.j2, if_neg (by simp), if_pos (by omega), if_neg (show ¬ ((224 ≤ b0 ∧ b0 ≤ 239) ∧ _) from fun h => x1 h.1.2)]
      by_cases x2 : b0 ≤ 244
      · rw [if_pos (by omega), w1.out, f1]
        simp only [Option.bind_some, decide_eq_true_eq]
        by_cases z1 : i + 1 < s.size ∧ ((L : Int) ≤ (b1 : Int) ∧ (b1 : Int) ≤ (H : Int))
        · rw [if_pos z1, w2.out, f2]
          simp only [Option.bind_some, decide_eq_true_eq]
          by_cases z2 : i + 2 < s.size ∧ ((128 : Int) ≤ (b2 : Int) ∧ (b2 : Int) ≤ 191)
          · rw [if_pos z2, w3.out, f3]
            simp only [Option.bind_some, decide_eq_true_eq]
            by_cases z3 : i + 3 < s.size ∧ ((128 : Int) ≤ (b3 : Int) ∧ (b3 : Int) ≤ 191)
            · rw [if_pos z3, if_pos (by omega), if_pos (by omega), if_pos (by omega), if_pos (by omega), if_pos (by omega), if_pos (by omega), e1.out, e2.out, e3.out, a7.out, m1.out, m2.out, m3.out, if_pos (by omega)]
              simp (disch := omega) only [w64]
              simp only [Option.some.injEq, Prod.mk.injEq]
              omega
            · rw [if_neg z3, if_neg (by omega)]; rfl
          · rw [if_neg z2, if_neg (by omega)]; rfl
        · rw [if_neg z1, if_neg (by omega)]; rfl
      · rw [if_neg (by omega), if_neg (by omega)]; rfl
  by_cases c1 : (194 ≤ b0 ∧ b0 ≤ 223) ∧ (1 < s.size - i ∧ 128 ≤ b1 ∧ b1 ≤ 191)
  · rw [if_pos (by omega), if_pos (by omega), w1.out, f1]
    simp only [Option.bind_some, decide_eq_true_eq]
    rw [if_pos (by omega), if_pos (by omega), if_pos (by omega), e1.out, a31.out, m1.out, refY, if_neg c0, if_pos c1]
    simp (disch := omega) only [w64]
    simp only [Option.some.injEq, Prod.mk.injEq]
    omega
  · have hj' := hj c1
    by_cases x1 : 194 ≤ b0
    · rw [if_pos (by omega)]
      by_cases x2 : b0 ≤ 223
      · rw [if_pos (by omega), w1.out, f1]
        simp only [Option.bind_some, decide_eq_true_eq]
        rw [if_neg (by omega)]
        exact hj'
      · rw [if_neg (by omega)]; exact hj'
    · rw [if_neg (by omega)]; exact hj'
theorem Rune_f (k : Nat) (s : ByteArray) (i : Nat) (hi : i < s.size) (hs : s.size ≤ 1099511627776) :
    cachepotref1_Rune.f (k + 3) s (i : Int) = some (((Utf8.decode s i).1 : Int), ((Utf8.decode s i).2 : Int)) := by
  obtain ⟨L, H, hL, hH, hj0, hj0'⟩ := Rune_j0 (k + 2) s (i : Int) (s.get! i).toNat
  rw [Lib.decode_at, ← refN_eq _ _ _ _ _ L H (s.get! i).toNat_lt (s.get! (i + 1)).toNat_lt (s.get! (i + 2)).toNat_lt (s.get! (i + 3)).toNat_lt hL hH]
  exact Rune_core k s i hi hs _ _ _ _ L H _ _ _ _ _ _ ⟨by rw [bt_get]; rfl⟩ ⟨by rw [bt_get]; rfl⟩ ⟨by rw [bt_get]; rfl⟩ ⟨by rw [bt_get]; rfl⟩
    (follows_f s (i + 1)) (follows_f s (i + 2)) (follows_f s (i + 3)) ⟨hj0⟩ ⟨hj0'⟩ ⟨and31 ⟨_, (s.get! i).toNat_lt⟩⟩ ⟨and15 ⟨_, (s.get! i).toNat_lt⟩⟩ ⟨and7 ⟨_, (s.get! i).toNat_lt⟩⟩
    ⟨and63 ⟨_, (s.get! (i + 1)).toNat_lt⟩⟩ ⟨and63 ⟨_, (s.get! (i + 2)).toNat_lt⟩⟩ ⟨and63 ⟨_, (s.get! (i + 3)).toNat_lt⟩⟩ (s.get! i).toNat_lt
    (Nat.mod_lt _ (by decide)) (Nat.mod_lt _ (by decide)) (Nat.mod_lt _ (by decide)) (Nat.mod_lt _ (by decide)) (Nat.mod_lt _ (by decide)) (Nat.mod_lt _ (by decide))
theorem Plain_f (r n : Nat) : cachepotref1_Plain.f (r : Int) (n : Int) = some (decide (33 ≤ r ∧ ¬ (127 ≤ r ∧ r ≤ 160) ∧ ¬ (r = 65533 ∧ n = 1))) := by
  unfold cachepotref1_Plain.f
  repeat' split
  all_goals (congr 1; rw [Bool.eq_iff_iff]; simp; omega)
/-- the reference's plain: the width, or 0 -/
theorem plain_f (k : Nat) (s : ByteArray) (i : Nat) (hi : i < s.size) (hs : s.size ≤ 1099511627776) :
    cachepotref3_plain.f (k + 3) s (i : Int) = some (if mayB s i = true then (width s i : Int) else 0) := by
  unfold cachepotref3_plain.f
  rw [Rune_f k s i hi hs]
  simp only [Option.bind_some]
  rw [Plain_f]
  simp only [Option.bind_some]
  have hw := width_pos s i
  unfold mayB
  unfold width at *
  generalize (Utf8.decode s i).1 = r at *
  generalize (Utf8.decode s i).2 = n at *
  have e : mayR r n = decide ((33 ≤ r ∧ ¬ (127 ≤ r ∧ r ≤ 160) ∧ ¬ (r = 65533 ∧ n = 1)) ∧ ¬ r = 34 ∧ ¬ r = 92) := by
    rw [Bool.eq_iff_iff]
    unfold mayR
    simp
    omega
  rw [e]
  by_cases h1 : 33 ≤ r ∧ ¬ (127 ≤ r ∧ r ≤ 160) ∧ ¬ (r = 65533 ∧ n = 1)
  · rw [decide_eq_true h1, if_pos rfl]
    by_cases h2 : r = 34
    · rw [if_pos (by omega), if_neg (by simp [h2])]
    · rw [if_neg (by omega)]
      by_cases h3 : r = 92
      · rw [if_pos (by omega), if_neg (by simp [h3])]
      · rw [if_neg (by omega), if_pos (by rw [decide_eq_true_eq]; exact ⟨h1, h2, h3⟩)]
  · rw [decide_eq_false h1, if_neg (by simp), if_neg (by rw [decide_eq_true_eq]; exact fun h => h1 h.1)]
end Go.Proofs.YtfaelejeihmgcaaDoor.Wd
end

section
namespace Go.Proofs.YtfaelejeihmgcaaDoor.Wd
open Go.RowKit Go.Proofs.YtfaelejeihmgcaaDoorW.PrintWords Go.Proofs.YtfaelejeihmgcaaDoorW.PrintLast
theorem ba_ext {a b : ByteArray} (h : a.data.toList = b.data.toList) : a = b := by
  cases a with
  | mk da => cases b with
    | mk db =>
      simp at h
      rw [h]
theorem ex_all (s : ByteArray) : s.extract 0 s.size = s := by
  apply ba_ext
  rw [Lib.extract_data]
  simp only [List.drop_zero, Nat.sub_zero]
  exact List.take_of_length_le (by rw [← Lib.size_eq]; exact Nat.le_refl _)
end Go.Proofs.YtfaelejeihmgcaaDoor.Wd
end

section
namespace Go.Proofs.YtfaelejeihmgcaaDoor.Wd
open Go.RowKit Go.Proofs.YtfaelejeihmgcaaDoorW.PrintWords Go.Proofs.YtfaelejeihmgcaaDoorW.PrintLast
theorem wn (i n : Nat) (h : i + n ≤ 1099511627780) : wrap64 ((i : Int) + (n : Int)) = ((i + n : Nat) : Int) := by
  have := w64 ((i : Int) + (n : Int)) (by omega) (by omega)
  rw [this]; rfl
theorem wn1 (i : Nat) (h : i + 1 ≤ 1099511627780) : wrap64 ((i : Int) + 1) = ((i + 1 : Nat) : Int) := wn i 1 h
end Go.Proofs.YtfaelejeihmgcaaDoor.Wd
end

section
namespace Go.Proofs.YtfaelejeihmgcaaDoor.Stp
open Go.RowKit Go.Proofs.YtfaelejeihmgcaaDoorW.PrintWords
theorem bytesAt_len (s : ByteArray) (i n : Nat) : (Wd.bytesAt s i n).length ≤ n := by
  unfold Wd.bytesAt
  rw [List.length_take]
  omega
/-- a step's two lists, in memory -/
structure OpL (W : World) (o : OpV) (Ak : Option Addr) (ck : Nat) (Am : Option Addr) (cm : Nat) : Prop where
  k : Kd.C Kd.string W Ak o.keys.length o.keys
  kc : o.keys.length ≤ ck
  m : Kd.C (Kd.int .i64) W Am o.mask.length o.mask
  mc : o.mask.length ≤ cm
theorem OpL.below {W W1 : World} {o : OpV} {Ak Am : Option Addr} {ck cm : Nat} (h : OpL W o Ak ck Am cm) (hb : Below W.heap.size W W1) : OpL W1 o Ak ck Am cm := ⟨Kd.C_below h.k hb, h.kc, Kd.C_below h.m hb, h.mc⟩
end Go.Proofs.YtfaelejeihmgcaaDoor.Stp
end

section
namespace Go.Proofs.YtfaelejeihmgcaaDoor.Stp
open Go.RowKit Go.Proofs.YtfaelejeihmgcaaDoorW.PrintWords Go.Proofs.YtfaelejeihmgcaaDoorW.PrintLast
/-- a step in a block of its own -/
def OpAt (W : World) (g : Nat) (o : OpV) (Ak : Option Addr) (ck : Nat) (Am : Option Addr) (cm : Nat) : Prop :=
  W.heap[g]? = some (.cells #[.int .i64 o.kind, .int .i64 o.s, .string o.key, .string o.val, .slice Ak o.keys.length ck, .int .i64 o.n, .slice Am o.mask.length cm, .int .i64 o.page, .int .i64 o.at_, .int .i64 o.x] 61) ∧ OpL W o Ak ck Am cm
theorem OpAt.below {W W1 : World} {g : Nat} {o : OpV} {Ak Am : Option Addr} {ck cm : Nat} (h : OpAt W g o Ak ck Am cm) (hb : Below W.heap.size W W1) : OpAt W1 g o Ak ck Am cm :=
  ⟨(hb.block g (Array.getElem?_eq_some_iff.1 h.1).1).trans h.1, h.2.below hb⟩
/-- the block that a step is stored into -/
def opO (o : OpV) (Ak : Option Addr) (ck : Nat) (Am : Option Addr) (cm : Nat) : Obj := .cells #[.int .i64 o.kind, .int .i64 o.s, .string o.key, .string o.val, .slice Ak o.keys.length ck, .int .i64 o.n, .slice Am o.mask.length cm, .int .i64 o.page, .int .i64 o.at_, .int .i64 o.x] 61
theorem OpAt.alloc {W : World} {o : OpV} {Ak Am : Option Addr} {ck cm : Nat} (h : OpL W o Ak ck Am cm) : OpAt (W.alloc (opO o Ak ck Am cm)) W.heap.size o Ak ck Am cm :=
  ⟨heap_alloc_new W _, h.below (below_alloc (Below.refl _ _) _)⟩
end Go.Proofs.YtfaelejeihmgcaaDoor.Stp
end

section
namespace Go.Proofs.YtfaelejeihmgcaaDoor.Stp
open Go.RowKit Go.Proofs.YtfaelejeihmgcaaDoorW.PrintWords Go.ChangeShapes Go.WideShapes
theorem laidOut : laidOutB Tryd.prog = true := by kernel_rfl
def okI (_ : Nat) (n : Int) : Prop := (Lit.int .i64 n).wf = true
def okS (N : Nat) (s : ByteArray) : Prop := s.size ≤ N ∧ s.size ≤ maxLen
def okT (N : Nat) (l : List ByteArray) : Prop := l.length ≤ N ∧ ∀ x ∈ l, okS N x
def okM (N : Nat) (l : List Int) : Prop := l.length ≤ N ∧ ∀ x ∈ l, okI N x
theorem o3 : Opn.Opn (Kd.int .i64) 3 okI := Opn.int Tryd.underlying3 (by kernel_rfl)
theorem o9 : Opn.Opn Kd.string 9 okS := Opn.string Tryd.underlying9 (by kernel_rfl)
theorem o22 : Opn.Opn (Kd.slice 9 Kd.string) 22 okT := Opn.slice o9 Tryd.underlying22 (by kernel_rfl)
theorem o56 : Opn.Opn (Kd.slice 3 (Kd.int .i64)) 56 okM := Opn.slice o3 Tryd.underlying56 (by kernel_rfl)
def projO (o : OpV) : Int × Int × ByteArray × ByteArray × List ByteArray × Int × List Int × Int × Int × Int := (o.kind, o.s, o.key, o.val, o.keys, o.n, o.mask, o.page, o.at_, o.x)
def k61 : Kd OpV := Kd.iso (Kd.pair (Kd.int .i64) (Kd.pair (Kd.int .i64) (Kd.pair Kd.string (Kd.pair Kd.string (Kd.pair (Kd.slice 9 Kd.string) (Kd.pair (Kd.int .i64) (Kd.pair (Kd.slice 3 (Kd.int .i64)) (Kd.pair (Kd.int .i64) (Kd.pair (Kd.int .i64) (Kd.int .i64)))))))))) projO
def ok61 (N : Nat) (o : OpV) : Prop := okI N o.kind ∧ okI N o.s ∧ okS N o.key ∧ okS N o.val ∧ okT N o.keys ∧ okI N o.n ∧ okM N o.mask ∧ okI N o.page ∧ okI N o.at_ ∧ okI N o.x
set_option maxRecDepth 100000 in
theorem o61 : Opn.Opn k61 61 ok61 :=
  Opn.struct (proj := projO) (Opn.OpnF.cons (f := { name := "Kind", type := 3, offset := 0, embedded := false, tag := "", pkgPath := "", byteOffset := 0 }) o3 rfl rfl (Opn.OpnF.cons (f := { name := "S", type := 3, offset := 1, embedded := false, tag := "", pkgPath := "", byteOffset := 8 }) o3 rfl rfl (Opn.OpnF.cons (f := { name := "Key", type := 9, offset := 2, embedded := false, tag := "", pkgPath := "", byteOffset := 16 }) o9 rfl rfl (Opn.OpnF.cons (f := { name := "Val", type := 9, offset := 3, embedded := false, tag := "", pkgPath := "", byteOffset := 32 }) o9 rfl rfl (Opn.OpnF.cons (f := { name := "Keys", type := 22, offset := 4, embedded := false, tag := "", pkgPath := "", byteOffset := 48 }) o22 rfl rfl (Opn.OpnF.cons (f := { name := "N", type := 3, offset := 5, embedded := false, tag := "", pkgPath := "", byteOffset := 72 }) o3 rfl rfl (Opn.OpnF.cons (f := { name := "Mask", type := 56, offset := 6, embedded := false, tag := "", pkgPath := "", byteOffset := 80 }) o56 rfl rfl (Opn.OpnF.cons (f := { name := "Page", type := 3, offset := 7, embedded := false, tag := "", pkgPath := "", byteOffset := 104 }) o3 rfl rfl (Opn.OpnF.cons (f := { name := "At", type := 3, offset := 8, embedded := false, tag := "", pkgPath := "", byteOffset := 112 }) o3 rfl rfl (Opn.OpnF.one (f := { name := "X", type := 3, offset := 9, embedded := false, tag := "", pkgPath := "", byteOffset := 120 }) o3 rfl rfl)))))))))) Tryd.underlying61 (by kernel_rfl) (fun y => ⟨y.1, y.2.1, y.2.2.1, y.2.2.2.1, y.2.2.2.2.1, y.2.2.2.2.2.1, y.2.2.2.2.2.2.1, y.2.2.2.2.2.2.2.1, y.2.2.2.2.2.2.2.2.1, y.2.2.2.2.2.2.2.2.2⟩) (fun _ => rfl)
set_option maxRecDepth 100000 in
/-- a step that came in -/
theorem op_arg {H : Type} {enc : TypeId × Value → H} {W : World} {b0 : Nat} {v : Value} {d : DataW H} {ps : List MemPlace} (hval : Value.okWide Tryd.prog W .any b0 61 v) (h : DataW.Trod enc Tryd.prog W 0 (fun _ => true) true 61 v d ps) :
    ∃ o A c B e, v = .agg #[.int .i64 o.kind, .int .i64 o.s, .string o.key, .string o.val, .slice A o.keys.length c, .int .i64 o.n, .slice B o.mask.length e, .int .i64 o.page, .int .i64 o.at_, .int .i64 o.x] ∧ OpL W o A c B e ∧ ok61 (Rows.uptoBulk d) o := by
  obtain ⟨cs, rfl, _⟩ := okWide_struct Tryd.underlying61 hval
  obtain ⟨fuel, hf⟩ := h
  obtain ⟨o, hK, hx⟩ := o61.opn hf
  obtain ⟨c0, r0, e0, k0, c1, r1, e1, k1, c2, r2, e2, k2, c3, r3, e3, k3, c4, r4, e4, ⟨A, c, k4, h4, g4⟩, c5, r5, e5, k5, c6, r6, e6, ⟨B, e, k6, h6, g6⟩, c7, r7, e7, k7, c8, r8, e8, k8, k9⟩ := hK
  refine ⟨o, A, c, B, e, ?_, ⟨g4, h4, g6, h6⟩, hx⟩
  have e2 : cs.toList = [.int .i64 o.kind, .int .i64 o.s, .string o.key, .string o.val, .slice A o.keys.length c, .int .i64 o.n, .slice B o.mask.length e, .int .i64 o.page, .int .i64 o.at_, .int .i64 o.x] := by
    show cs.toList = _
    have e0' : cs.toList = c0 ++ r0 := e0
    rw [e0', k0, e1, k1, e2, k2, e3, k3, e4, k4, e5, k5, e6, k6, e7, k7, e8, k8, k9]
    rfl
  obtain ⟨l⟩ := cs
  simp only at e2
  rw [e2]
end Go.Proofs.YtfaelejeihmgcaaDoor.Stp
end

section
namespace Go.Proofs.YtfaelejeihmgcaaDoor.Stp
open Go.RowKit Go.Proofs.YtfaelejeihmgcaaDoorW.PrintWords Go.Proofs.YtfaelejeihmgcaaDoorW.PrintLast Go.Proofs.YtfaelejeihmgcaaDoorW.PrintMore
attribute [local go_sem] max2_int min2_int max_two min_two max_three min_three max_four min_four   -- for this text's walks alone
set_option linter.unusedVariables false
set_option linter.unusedSimpArgs false
def cachepotref3_Digits.f : Nat → Int → Option (ByteArray)
  | 0, _ => none
  | k + 1, a0 => if a0 ≤ (-10) then ((cachepotref3_Digits.f k (wrap64 (Int.tdiv a0 10))).bind fun t175 => ((some (([(wrap64 (48 - (Int.tmod a0 10))) % 256] : List Int) : List Int)).bind fun y176 => (if t175.size + (strOfNums y176).size ≤ 9223372036854775807 then (some (t175 ++ (strOfNums y176))) else (none)))) else (if a0 < 0 then ((some (([(wrap64 (48 - a0)) % 256] : List Int) : List Int)).bind fun y179 => (if 1 + (strOfNums y179).size ≤ 9223372036854775807 then (some ((⟨#[45]⟩ : ByteArray) ++ (strOfNums y179))) else (none))) else (if a0 < 10 then (some (strOfNums (([(wrap64 (48 + a0)) % 256] : List Int)))) else ((cachepotref3_Digits.f k (wrap64 (Int.tdiv a0 10))).bind fun t185 => ((cachepotref3_Digits.f k (Int.tmod a0 10)).bind fun t186 => (if t185.size + t186.size ≤ 9223372036854775807 then (some (t185 ++ t186)) else (none))))))
def cachepotref3_Digits.T2 : Bool × List (List Nat × List Nat) := (true, [([], []), ([0], [0]), ([1], [1]), ([], []), ([3], [3]), ([4], [4]), ([5], [5]), ([6], [6]), ([7], [7]), ([2, 8], [2, 8]), ([9, 2, 0, 1, 2, 3, 4, 5, 6, 7, 8, 9], [9])])
def cachepotref3_Digits.B2 : List Nat := [0, 1, 3, 0, 8, 24, 56, 120, 248, 511, 1023]
theorem cachepotref3_Digits.tab2 : rtab .any (opsOf Tryd.f51 2) = cachepotref3_Digits.T2 := by kernel_rfl
theorem cachepotref3_Digits.bits2 : waitsOk cachepotref3_Digits.T2.2 cachepotref3_Digits.B2 = true := by kernel_rfl
set_option maxHeartbeats 8000000 in
set_option maxRecDepth 100000 in
theorem cachepotref3_Digits.calls (k : Nat) : ∀ (a0 : Int) (r : ByteArray) (w : World) (h : cachepotref3_Digits.f k a0 = some r),
    Calls Tryd.prog 51 #[.int .i64 a0] w fun e w' => e = .returned (.string r) ∧ Below w.heap.size w w' := by
  induction k using Nat.strongRecOn with
  | _ k ih =>
  intro a0 r w h
  cases k with
  | zero => exact absurd h (by simp [cachepotref3_Digits.f])
  | succ k =>
  simp only [cachepotref3_Digits.f] at h
  have HB := Aside0.mk (Below.refl w.heap.size w)
  have H : (if a0 ≤ (-10) then ((cachepotref3_Digits.f k (wrap64 (Int.tdiv a0 10))).bind fun t175 => ((some (([(wrap64 (48 - (Int.tmod a0 10))) % 256] : List Int) : List Int)).bind fun y176 => (if t175.size + (strOfNums y176).size ≤ 9223372036854775807 then (some (t175 ++ (strOfNums y176))) else (none)))) else (if a0 < 0 then ((some (([(wrap64 (48 - a0)) % 256] : List Int) : List Int)).bind fun y179 => (if 1 + (strOfNums y179).size ≤ 9223372036854775807 then (some ((⟨#[45]⟩ : ByteArray) ++ (strOfNums y179))) else (none))) else (if a0 < 10 then (some (strOfNums (([(wrap64 (48 + a0)) % 256] : List Int)))) else ((cachepotref3_Digits.f k (wrap64 (Int.tdiv a0 10))).bind fun t185 => ((cachepotref3_Digits.f k (Int.tmod a0 10)).bind fun t186 => (if t185.size + t186.size ≤ 9223372036854775807 then (some (t185 ++ t186)) else (none))))))) = some r := h
  clear h
  by_cases c2 : a0 ≤ (-10)
  · rw [if_pos c2] at H
    have c2b0 : decide (a0 ≤ (-10)) = true := decide_eq_true c2
    clear c2
    replace H := Option.bind_eq_some_iff.mp H
    obtain ⟨t175, A30, H⟩ := H
    replace H : ((some (([(wrap64 (48 - (Int.tmod a0 10))) % 256] : List Int) : List Int)).bind fun y176 => (if t175.size + (strOfNums y176).size ≤ 9223372036854775807 then (some (t175 ++ (strOfNums y176))) else (none))) = some r := H
    have A3 := Aside0.mk A30
    clear A30
    obtain ⟨y176, hy176⟩ : ∃ y_ : List Int, y_ = (([(wrap64 (48 - (Int.tmod a0 10))) % 256] : List Int)) := ⟨_, rfl⟩
    replace H : (if t175.size + (strOfNums y176).size ≤ 9223372036854775807 then (some (t175 ++ (strOfNums y176))) else (none)) = some r := by first | (rw [hy176]; with_reducible exact H) | (have H2_ := (Option.bind_some _ _).symm.trans H; rw [hy176]; with_reducible exact H2_) | (have H2_ := (Option.bind_some _ _).symm.trans H; with_reducible exact H2_) | with_reducible exact H | (rw [hy176]; exact H) | exact H
    have Ny176 := Aside0.mk hy176
    clear hy176
    by_cases c4 : t175.size + (strOfNums y176).size ≤ 9223372036854775807
    · rw [if_pos c4] at H
      have c4b0 := eq_true c4
      have c4b1 : decide (t175.size + (strOfNums y176).size ≤ 9223372036854775807) = true := decide_eq_true c4
      try have c4b2 : (9223372036854775807 < t175.size + (strOfNums y176).size) = False := eq_false (Nat.not_lt.2 c4)
      obtain rfl := Option.some.inj H
      go_enter Tryd.func51, Tryd.ntmps51
      try go_wp2
      have n0_ := Aside0.mk (below_drew1 HB.out)
      clear HB
      have HB := n0_
      clear n0_
      refine start_ (n := 11) (S := fun w' => True) (ds := []) #[false, false, false, false, false, false, false, false, false, false, false] (by kernel_rfl) rfl rfl trivial (fun hHeld => ?_); refine with_tabW cachepotref3_Digits.tab2 cachepotref3_Digits.bits2 (fun HT_ HW_ => ?_)
      generalize w.drew = w5 at HB hHeld ⊢
      refine pure_ (i := 0) (N := some 5) (v := ?_) (a' := ?_) #[true, false, false, false, false, false, false, false, false, false, false] rfl rfl (any_of HT_.out (by kernel_rfl)) (fun _ _ _ h => h) (Or.inl ⟨by rfl, ?_⟩) ?_ ?_
      rotate_left
      · intro w'
        go_simp
        with_reducible rfl
      rotate_left
      · simp only [Act.put, List.setIfInBounds_toArray, List.set_cons_zero, List.set_cons_succ, i64_w, i32_w]
        rfl
      refine pure_ (i := 1) (N := some 6) (v := ?_) (a' := ?_) #[true, true, false, false, false, false, false, false, false, false, false] rfl rfl (any_of HT_.out (by kernel_rfl)) (fun _ _ _ h => h) (Or.inl ⟨by rfl, ?_⟩) ?_ ?_
      rotate_left
      · intro w'
        go_simp
        with_reducible rfl
      rotate_left
      · simp only [Act.put, List.setIfInBounds_toArray, List.set_cons_zero, List.set_cons_succ, i64_w, i32_w]
        rfl
      refine pure_ (i := 3) (N := some 8) (v := ?_) (a' := ?_) #[true, true, false, true, false, false, false, false, false, false, false] rfl rfl (any_of HT_.out (by kernel_rfl)) (fun _ _ _ h => h) (Or.inl ⟨by rfl, ?_⟩) ?_ ?_
      rotate_left
      · intro w'
        go_simp
        with_reducible rfl
      rotate_left
      · simp only [Act.put, List.setIfInBounds_toArray, List.set_cons_zero, List.set_cons_succ, i64_w, i32_w]
        rfl
      refine pure_ (i := 4) (N := some 9) (v := ?_) (a' := ?_) #[true, true, false, true, true, false, false, false, false, false, false] rfl rfl (any_of HT_.out (by kernel_rfl)) (fun _ _ _ h => h) (Or.inl ⟨by rfl, ?_⟩) ?_ ?_
      rotate_left
      · intro w'
        go_simp
        with_reducible rfl
      rotate_left
      · simp only [Act.put, List.setIfInBounds_toArray, List.set_cons_zero, List.set_cons_succ, i64_w, i32_w]
        rfl
      refine pure_ (i := 5) (N := some 10) (v := ?_) (a' := ?_) #[true, true, false, true, true, true, false, false, false, false, false] rfl rfl (any_of HT_.out (by kernel_rfl)) (fun _ _ _ h => h) (Or.inl ⟨by rfl, ?_⟩) ?_ ?_
      rotate_left
      · intro w'
        go_simp
        with_reducible rfl
      rotate_left
      · simp only [Act.put, List.setIfInBounds_toArray, List.set_cons_zero, List.set_cons_succ, i64_w, i32_w]
        rfl
      refine pure_ (i := 6) (N := some 11) (v := ?_) (a' := ?_) #[true, true, false, true, true, true, true, false, false, false, false] rfl rfl (any_of HT_.out (by kernel_rfl)) (fun _ _ _ h => h) (Or.inl ⟨by rfl, ?_⟩) ?_ ?_
      rotate_left
      · intro w'
        go_simp
        with_reducible rfl
      rotate_left
      · simp only [Act.put, List.setIfInBounds_toArray, List.set_cons_zero, List.set_cons_succ, i64_w, i32_w]
        rfl
      refine join_ (σ := Value) 2 #[true, true, true, true, true, true, true, true, true, false, false] (fun s_ => [(7, .string t175), (12, s_), (13, .string (strOfNums y176))]) (fun s_ w' => (Kd.R (Kd.int .u8) 5 w' w.heap.size (fun _ => True) s_ y176) ∧ (Below w.heap.size w w')) ?_ ?_
      rotate_left
      · intro hCont
        refine two_ (i := 2) (j := 7) (Ni := some 7) (Nj := some 12) #[true, true, true, true, true, true, true, false, false, false, false] #[true, true, false, true, true, true, true, true, false, false, false] rfl rfl rfl rfl (two_of HT_.out (by kernel_rfl)) (by decide) (by decide) (fun K hK => ?_) (fun K hK => ?_)
        · skip
          refine goes_ Tryd.func51 (by kernel_rfl) rfl #[.int .i64 (wrap64 (Int.tdiv a0 10))] (by rfl) rfl rfl (by (try simp only [List.map_toArray, List.map_cons, List.map_nil]); first | done | rfl | (simp only [List.length_drop, List.length_take]; rfl)) ?_
          with_reducible refine (ih k (by omega) (wrap64 (Int.tdiv a0 10)) t175 _ A3.out).mono ?_
          rintro e w6 ⟨rfl, hb⟩
          refine ⟨_, rfl, ?_⟩
          have n0_ := Aside0.mk (below_step (by repeat (first | (with_reducible first | exact HB.out | apply below_alloc | apply pw_below_drewN | apply below_drew1) | exact HB.out)) hb)
          clear HB
          have HB := n0_
          clear n0_
          (try clear hb)
          (try clear hb2)
          (try clear hk)
          (try clear hi)
          refine hK.out _ _ trivial (fun hHeld => ?_)
          clear hK K
          refine norm_ (a' := ?_) ?_ ?_
          rotate_left
          · show Act.put _ (some 7) _ = _
            simp only [Act.put, List.setIfInBounds_toArray, List.set_cons_zero, List.set_cons_succ, i64_w, i32_w]
            rfl
          refine one_ (i := 7) (N := some 12) #[true, true, true, true, true, true, true, true, false, false, false] rfl rfl (one_of HT_.out (by kernel_rfl)) (by decide) (fun K hK => ?_)
          refine Kd.R_lit_step (Kd.int .u8) _ 5 ?hg (N := 12) ?hd (xs := ([(wrap64 (48 - (Int.tmod a0 10))) % 256] : List Int)) (inner := [.int .u8 ((wrap64 (48 - (Int.tmod a0 10))) % 256)]) (ok := fun _ => True) (okp := fun _ => True) ?hr ?hp (fun _ hk => hk) trivial (Below.refl _ _) (Nat.le_refl _) (by simp) ?_; (case hd => rfl); (case hg => rfl); (case hr => first | (go_simp; done) | (go_simp; rfl)); (case hp => exact (Reps.one (show Kd.M (Kd.int .u8) _ _ _ ((wrap64 (48 - (Int.tmod a0 10))) % 256) [.int .u8 ((wrap64 (48 - (Int.tmod a0 10))) % 256)] from rfl) (Reps.none _ _)))
          intro v177 w7 ho8 hb hg_ hnew_
          clear hg_ hnew_
          (first | rw [← Ny176.out] at ho8 | (simp only [Int.reduceToNat] at ho8; rw [← Ny176.out] at ho8))
          have n0_ := Aside0.mk (Kd.R_lower ho8 (below_size (by repeat (first | (with_reducible first | exact HB.out | apply below_alloc | apply pw_below_drewN | apply below_drew1) | exact HB.out))))
          have n1_ := Aside0.mk (below_step (by repeat (first | (with_reducible first | exact HB.out | apply below_alloc | apply pw_below_drewN | apply below_drew1) | exact HB.out)) hb)
          clear HB
          have HO178 := n0_
          have HB := n1_
          clear n0_ n1_
          clear hb ho8
          refine hK.out _ _ trivial (fun hHeld => ?_)
          clear hK K
          refine norm_ (a' := ?_) ?_ ?_
          rotate_left
          · show Act.put _ (some 12) _ = _
            simp only [Act.put, List.setIfInBounds_toArray, List.set_cons_zero, List.set_cons_succ, i64_w, i32_w]
            rfl
          refine one_ (i := 8) (N := some 13) #[true, true, true, true, true, true, true, true, true, false, false] rfl rfl (one_of HT_.out (by kernel_rfl)) (by decide) (fun K hK => ?_)
          have hcv9 := own_string (P := Tryd.prog) Tryd.underlying32 Tryd.underlying5 Tryd.underlying9 (Kd.own_of_R HO178.out)
          refine value_ (w1 := ?_) (v := ?_) (by rfl) rfl ?_ ?_
          rotate_left 2
          · go_simp
            constructor
            · rfl
            · rfl
          clear hcv9
          refine hK.out _ _ trivial (fun hHeld => ?_)
          clear hK K
          refine norm_ (a' := ?_) ?_ ?_
          rotate_left
          · show Act.put _ (some 13) _ = _
            simp only [Act.put, List.setIfInBounds_toArray, List.set_cons_zero, List.set_cons_succ, i64_w, i32_w]
            rfl
          exact norm_ (by simp only [putAll, Act.put, List.setIfInBounds_toArray, List.set_cons_zero, List.set_cons_succ]) (hCont (v177) _ ⟨(by (with_reducible repeat (first | apply Kd.R_alloc | apply Kd.R_drewN | apply Kd.R_drew)); exact HO178.out), (by repeat (first | (with_reducible first | exact HB.out | apply below_alloc | apply pw_below_drewN | apply below_drew1) | exact HB.out))⟩)
        · skip
          refine Kd.R_lit_step (Kd.int .u8) _ 5 ?hg (N := 12) ?hd (xs := ([(wrap64 (48 - (Int.tmod a0 10))) % 256] : List Int)) (inner := [.int .u8 ((wrap64 (48 - (Int.tmod a0 10))) % 256)]) (ok := fun _ => True) (okp := fun _ => True) ?hr ?hp (fun _ hk => hk) trivial (Below.refl _ _) (Nat.le_refl _) (by simp) ?_; (case hd => rfl); (case hg => rfl); (case hr => first | (go_simp; done) | (go_simp; rfl)); (case hp => exact (Reps.one (show Kd.M (Kd.int .u8) _ _ _ ((wrap64 (48 - (Int.tmod a0 10))) % 256) [.int .u8 ((wrap64 (48 - (Int.tmod a0 10))) % 256)] from rfl) (Reps.none _ _)))
          intro v177 w6 ho7 hb hg_ hnew_
          clear hg_ hnew_
          (first | rw [← Ny176.out] at ho7 | (simp only [Int.reduceToNat] at ho7; rw [← Ny176.out] at ho7))
          have n0_ := Aside0.mk (Kd.R_lower ho7 (below_size (by repeat (first | (with_reducible first | exact HB.out | apply below_alloc | apply pw_below_drewN | apply below_drew1) | exact HB.out))))
          have n1_ := Aside0.mk (below_step (by repeat (first | (with_reducible first | exact HB.out | apply below_alloc | apply pw_below_drewN | apply below_drew1) | exact HB.out)) hb)
          clear HB
          have HO178 := n0_
          have HB := n1_
          clear n0_ n1_
          clear hb ho7
          refine hK.out _ _ trivial (fun hHeld => ?_)
          clear hK K
          refine norm_ (a' := ?_) ?_ ?_
          rotate_left
          · show Act.put _ (some 12) _ = _
            simp only [Act.put, List.setIfInBounds_toArray, List.set_cons_zero, List.set_cons_succ, i64_w, i32_w]
            rfl
          refine two_ (i := 2) (j := 8) (Ni := some 7) (Nj := some 13) #[true, true, true, true, true, true, true, true, false, false, false] #[true, true, false, true, true, true, true, true, true, false, false] rfl rfl rfl rfl (two_of HT_.out (by kernel_rfl)) (by decide) (by decide) (fun K hK => ?_) (fun K hK => ?_)
          · skip
            refine goes_ Tryd.func51 (by kernel_rfl) rfl #[.int .i64 (wrap64 (Int.tdiv a0 10))] (by rfl) rfl rfl (by (try simp only [List.map_toArray, List.map_cons, List.map_nil]); first | done | rfl | (simp only [List.length_drop, List.length_take]; rfl)) ?_
            with_reducible refine (ih k (by omega) (wrap64 (Int.tdiv a0 10)) t175 _ A3.out).mono ?_
            rintro e w8 ⟨rfl, hb⟩
            refine ⟨_, rfl, ?_⟩
            have n0_ := Aside0.mk (Kd.R_below (by (with_reducible repeat (first | apply Kd.R_alloc | apply Kd.R_drewN | apply Kd.R_drew)); exact HO178.out) hb)
            have n1_ := Aside0.mk (below_step (by repeat (first | (with_reducible first | exact HB.out | apply below_alloc | apply pw_below_drewN | apply below_drew1) | exact HB.out)) hb)
            clear HO178
            clear HB
            have HO178 := n0_
            have HB := n1_
            clear n0_ n1_
            (try clear hb)
            (try clear hb2)
            (try clear hk)
            (try clear hi)
            refine hK.out _ _ trivial (fun hHeld => ?_)
            clear hK K
            refine norm_ (a' := ?_) ?_ ?_
            rotate_left
            · show Act.put _ (some 7) _ = _
              simp only [Act.put, List.setIfInBounds_toArray, List.set_cons_zero, List.set_cons_succ, i64_w, i32_w]
              rfl
            refine one_ (i := 8) (N := some 13) #[true, true, true, true, true, true, true, true, true, false, false] rfl rfl (one_of HT_.out (by kernel_rfl)) (by decide) (fun K hK => ?_)
            have hcv9 := own_string (P := Tryd.prog) Tryd.underlying32 Tryd.underlying5 Tryd.underlying9 (Kd.own_of_R HO178.out)
            refine value_ (w1 := ?_) (v := ?_) (by rfl) rfl ?_ ?_
            rotate_left 2
            · go_simp
              constructor
              · rfl
              · rfl
            clear hcv9
            refine hK.out _ _ trivial (fun hHeld => ?_)
            clear hK K
            refine norm_ (a' := ?_) ?_ ?_
            rotate_left
            · show Act.put _ (some 13) _ = _
              simp only [Act.put, List.setIfInBounds_toArray, List.set_cons_zero, List.set_cons_succ, i64_w, i32_w]
              rfl
            exact norm_ (by simp only [putAll, Act.put, List.setIfInBounds_toArray, List.set_cons_zero, List.set_cons_succ]) (hCont (v177) _ ⟨(by (with_reducible repeat (first | apply Kd.R_alloc | apply Kd.R_drewN | apply Kd.R_drew)); exact HO178.out), (by repeat (first | (with_reducible first | exact HB.out | apply below_alloc | apply pw_below_drewN | apply below_drew1) | exact HB.out))⟩)
          · skip
            have hcv8 := own_string (P := Tryd.prog) Tryd.underlying32 Tryd.underlying5 Tryd.underlying9 (Kd.own_of_R HO178.out)
            refine value_ (w1 := ?_) (v := ?_) (by rfl) rfl ?_ ?_
            rotate_left 2
            · go_simp
              constructor
              · rfl
              · rfl
            clear hcv8
            refine hK.out _ _ trivial (fun hHeld => ?_)
            clear hK K
            refine norm_ (a' := ?_) ?_ ?_
            rotate_left
            · show Act.put _ (some 13) _ = _
              simp only [Act.put, List.setIfInBounds_toArray, List.set_cons_zero, List.set_cons_succ, i64_w, i32_w]
              rfl
            refine one_ (i := 2) (N := some 7) #[true, true, true, true, true, true, true, true, true, false, false] rfl rfl (one_of HT_.out (by kernel_rfl)) (by decide) (fun K hK => ?_)
            refine goes_ Tryd.func51 (by kernel_rfl) rfl #[.int .i64 (wrap64 (Int.tdiv a0 10))] (by rfl) rfl rfl (by (try simp only [List.map_toArray, List.map_cons, List.map_nil]); first | done | rfl | (simp only [List.length_drop, List.length_take]; rfl)) ?_
            with_reducible refine (ih k (by omega) (wrap64 (Int.tdiv a0 10)) t175 _ A3.out).mono ?_
            rintro e w9 ⟨rfl, hb⟩
            refine ⟨_, rfl, ?_⟩
            have n0_ := Aside0.mk (Kd.R_below (by (with_reducible repeat (first | apply Kd.R_alloc | apply Kd.R_drewN | apply Kd.R_drew)); exact HO178.out) hb)
            have n1_ := Aside0.mk (below_step (by repeat (first | (with_reducible first | exact HB.out | apply below_alloc | apply pw_below_drewN | apply below_drew1) | exact HB.out)) hb)
            clear HO178
            clear HB
            have HO178 := n0_
            have HB := n1_
            clear n0_ n1_
            (try clear hb)
            (try clear hb2)
            (try clear hk)
            (try clear hi)
            refine hK.out _ _ trivial (fun hHeld => ?_)
            clear hK K
            refine norm_ (a' := ?_) ?_ ?_
            rotate_left
            · show Act.put _ (some 7) _ = _
              simp only [Act.put, List.setIfInBounds_toArray, List.set_cons_zero, List.set_cons_succ, i64_w, i32_w]
              rfl
            exact norm_ (by simp only [putAll, Act.put, List.setIfInBounds_toArray, List.set_cons_zero, List.set_cons_succ]) (hCont (v177) _ ⟨(by (with_reducible repeat (first | apply Kd.R_alloc | apply Kd.R_drewN | apply Kd.R_drew)); exact HO178.out), (by repeat (first | (with_reducible first | exact HB.out | apply below_alloc | apply pw_below_drewN | apply below_drew1) | exact HB.out))⟩)
      rintro v177 w10 ⟨h0_, h1_⟩
      have n0_ : Aside0 (Kd.R (Kd.int .u8) 5 w10 w.heap.size (fun _ => True) v177 y176) := ⟨h0_⟩
      have n1_ : Aside0 (Below w.heap.size w w10) := ⟨h1_⟩
      clear HB
      clear h0_ h1_
      have HO178 := n0_
      have HB := n1_
      clear n0_ n1_
      have hHeld := trivial
      refine norm_ (a' := ?_) ?_ ?_
      rotate_left
      · simp only [putAll, Act.put, List.setIfInBounds_toArray, List.set_cons_zero, List.set_cons_succ]
        rfl
      refine pure_ (i := 9) (N := some 14) (v := ?_) (a' := ?_) #[true, true, true, true, true, true, true, true, true, true, false] rfl rfl (any_of HT_.out (by kernel_rfl)) (fun _ _ _ h => h) (Or.inl ⟨by rfl, ?_⟩) ?_ ?_
      rotate_left
      · intro w'
        go_simp
        with_reducible rfl
      rotate_left
      · simp only [Act.put, List.setIfInBounds_toArray, List.set_cons_zero, List.set_cons_succ, i64_w, i32_w]
        rfl
      refine pure_ (i := 10) (N := some 2) (v := ?_) (a' := ?_) #[true, true, true, true, true, true, true, true, true, true, true] rfl rfl (any_of HT_.out (by kernel_rfl)) (fun _ _ _ h => h) (Or.inl ⟨by rfl, ?_⟩) ?_ ?_
      rotate_left
      · intro w'
        go_simp
        with_reducible rfl
      rotate_left
      · simp only [Act.put, List.setIfInBounds_toArray, List.set_cons_zero, List.set_cons_succ, i64_w, i32_w]
        rfl
      refine done_ (done_of HT_.out (by kernel_rfl)) ?_
      try go_wp2
      go_ret
      exact ⟨by first | rfl | (simp [errW_none, errW_some] <;> rfl) | (simp [*, errW_none, errW_some] <;> rfl), by repeat (first | (with_reducible first | exact HB.out | apply below_alloc | apply pw_below_drewN | apply below_drew1) | exact HB.out)⟩
    · rw [if_neg c4] at H
      exact absurd H (by simp)
  · rw [if_neg c2] at H
    have c2b0 : decide (a0 ≤ (-10)) = false := decide_eq_false c2
    clear c2
    by_cases c11 : a0 < 0
    · rw [if_pos c11] at H
      have c11b0 : decide (a0 < 0) = true := decide_eq_true c11
      clear c11
      obtain ⟨y179, hy179⟩ : ∃ y_ : List Int, y_ = (([(wrap64 (48 - a0)) % 256] : List Int)) := ⟨_, rfl⟩
      replace H : (if 1 + (strOfNums y179).size ≤ 9223372036854775807 then (some ((⟨#[45]⟩ : ByteArray) ++ (strOfNums y179))) else (none)) = some r := by first | (rw [hy179]; with_reducible exact H) | (have H2_ := (Option.bind_some _ _).symm.trans H; rw [hy179]; with_reducible exact H2_) | (have H2_ := (Option.bind_some _ _).symm.trans H; with_reducible exact H2_) | with_reducible exact H | (rw [hy179]; exact H) | exact H
      have Ny179 := Aside0.mk hy179
      clear hy179
      by_cases c12 : 1 + (strOfNums y179).size ≤ 9223372036854775807
      · rw [if_pos c12] at H
        have c12b0 := eq_true c12
        have c12b1 : decide (1 + (strOfNums y179).size ≤ 9223372036854775807) = true := decide_eq_true c12
        try have c12b2 : (9223372036854775807 < 1 + (strOfNums y179).size) = False := eq_false (Nat.not_lt.2 c12)
        obtain rfl := Option.some.inj H
        go_enter Tryd.func51, Tryd.ntmps51
        go_wp2_with (first | ((with_reducible refine gate_dst (N := 20) rfl ?_); refine Kd.R_lit (Kd.int .u8) _ 5 ?hg (N := 20) ?hd (xs := ([(wrap64 (48 - a0)) % 256] : List Int)) (inner := [.int .u8 ((wrap64 (48 - a0)) % 256)]) (ok := fun _ => True) (okp := fun _ => True) ?hr ?hp (fun _ hk => hk) trivial (Below.refl _ _) (Nat.le_refl _) (by simp) ?_; (case hd => rfl); (case hg => rfl); (case hr => first | (go_simp; done) | (go_simp; rfl)); (case hp => exact (Reps.one (show Kd.M (Kd.int .u8) _ _ _ ((wrap64 (48 - a0)) % 256) [.int .u8 ((wrap64 (48 - a0)) % 256)] from rfl) (Reps.none _ _))); intro v180 w13 ho14 hb hg_ hnew_; clear hg_ hnew_; (first | rw [← Ny179.out] at ho14 | (simp only [Int.reduceToNat] at ho14; rw [← Ny179.out] at ho14)); have n0_ := Aside0.mk (Kd.R_lower ho14 (below_size (by repeat (first | (with_reducible first | exact HB.out | apply below_alloc | apply pw_below_drewN | apply below_drew1) | exact HB.out)))); have n1_ := Aside0.mk (below_step (by repeat (first | (with_reducible first | exact HB.out | apply below_alloc | apply pw_below_drewN | apply below_drew1) | exact HB.out)) hb); clear HB; have HO181 := n0_; have HB := n1_; clear n0_ n1_; clear hb ho14; have hcv15 := own_string (P := Tryd.prog) Tryd.underlying32 Tryd.underlying5 Tryd.underlying9 (Kd.own_of_R HO181.out)))
        go_ret
        exact ⟨by first | rfl | (simp [errW_none, errW_some] <;> rfl) | (simp [*, errW_none, errW_some] <;> rfl), by repeat (first | (with_reducible first | exact HB.out | apply below_alloc | apply pw_below_drewN | apply below_drew1) | exact HB.out)⟩
      · rw [if_neg c12] at H
        exact absurd H (by simp)
    · rw [if_neg c11] at H
      have c11b0 : decide (a0 < 0) = false := decide_eq_false c11
      clear c11
      by_cases c16 : a0 < 10
      · rw [if_pos c16] at H
        have c16b0 : decide (a0 < 10) = true := decide_eq_true c16
        clear c16
        obtain ⟨y182, hy182⟩ : ∃ y_ : List Int, y_ = (([(wrap64 (48 + a0)) % 256] : List Int)) := ⟨_, rfl⟩
        replace H : (some (strOfNums y182)) = some r := by first | (rw [hy182]; with_reducible exact H) | (have H2_ := (Option.bind_some _ _).symm.trans H; rw [hy182]; with_reducible exact H2_) | (have H2_ := (Option.bind_some _ _).symm.trans H; with_reducible exact H2_) | with_reducible exact H | (rw [hy182]; exact H) | exact H
        have Ny182 := Aside0.mk hy182
        clear hy182
        obtain rfl := Option.some.inj H
        go_enter Tryd.func51, Tryd.ntmps51
        go_wp2_with (first | ((with_reducible refine gate_dst (N := 28) rfl ?_); refine Kd.R_lit (Kd.int .u8) _ 5 ?hg (N := 28) ?hd (xs := ([(wrap64 (48 + a0)) % 256] : List Int)) (inner := [.int .u8 ((wrap64 (48 + a0)) % 256)]) (ok := fun _ => True) (okp := fun _ => True) ?hr ?hp (fun _ hk => hk) trivial (Below.refl _ _) (Nat.le_refl _) (by simp) ?_; (case hd => rfl); (case hg => rfl); (case hr => first | (go_simp; done) | (go_simp; rfl)); (case hp => exact (Reps.one (show Kd.M (Kd.int .u8) _ _ _ ((wrap64 (48 + a0)) % 256) [.int .u8 ((wrap64 (48 + a0)) % 256)] from rfl) (Reps.none _ _))); intro v183 w17 ho18 hb hg_ hnew_; clear hg_ hnew_; (first | rw [← Ny182.out] at ho18 | (simp only [Int.reduceToNat] at ho18; rw [← Ny182.out] at ho18)); have n0_ := Aside0.mk (Kd.R_lower ho18 (below_size (by repeat (first | (with_reducible first | exact HB.out | apply below_alloc | apply pw_below_drewN | apply below_drew1) | exact HB.out)))); have n1_ := Aside0.mk (below_step (by repeat (first | (with_reducible first | exact HB.out | apply below_alloc | apply pw_below_drewN | apply below_drew1) | exact HB.out)) hb); clear HB; have HO184 := n0_; have HB := n1_; clear n0_ n1_; clear hb ho18; have hcv19 := own_string (P := Tryd.prog) Tryd.underlying32 Tryd.underlying5 Tryd.underlying9 (Kd.own_of_R HO184.out)))
        go_ret
        exact ⟨by first | rfl | (simp [errW_none, errW_some] <;> rfl) | (simp [*, errW_none, errW_some] <;> rfl), by repeat (first | (with_reducible first | exact HB.out | apply below_alloc | apply pw_below_drewN | apply below_drew1) | exact HB.out)⟩
      · rw [if_neg c16] at H
        have c16b0 : decide (a0 < 10) = false := decide_eq_false c16
        clear c16
        replace H := Option.bind_eq_some_iff.mp H
        obtain ⟨t185, A200, H⟩ := H
        replace H : ((cachepotref3_Digits.f k (Int.tmod a0 10)).bind fun t186 => (if t185.size + t186.size ≤ 9223372036854775807 then (some (t185 ++ t186)) else (none))) = some r := H
        have A20 := Aside0.mk A200
        clear A200
        replace H := Option.bind_eq_some_iff.mp H
        obtain ⟨t186, A210, H⟩ := H
        replace H : (if t185.size + t186.size ≤ 9223372036854775807 then (some (t185 ++ t186)) else (none)) = some r := H
        have A21 := Aside0.mk A210
        clear A210
        by_cases c22 : t185.size + t186.size ≤ 9223372036854775807
        · rw [if_pos c22] at H
          have c22b0 := eq_true c22
          have c22b1 : decide (t185.size + t186.size ≤ 9223372036854775807) = true := decide_eq_true c22
          try have c22b2 : (9223372036854775807 < t185.size + t186.size) = False := eq_false (Nat.not_lt.2 c22)
          obtain rfl := Option.some.inj H
          go_enter Tryd.func51, Tryd.ntmps51
          go_wp2_with (first | ((with_reducible refine gate_callee (f := 51) rfl ?_); refine goesL_ (some 32) rfl rfl Tryd.func51 (by kernel_rfl) rfl #[.int .i64 (wrap64 (Int.tdiv a0 10))] rfl (by (try simp only [List.map_toArray, List.map_cons, List.map_nil]); first | done | rfl | (simp only [List.length_drop, List.length_take]; rfl)) ?_; (with_reducible refine (ih k (by omega) (wrap64 (Int.tdiv a0 10)) t185 _ A20.out).mono ?_); rintro e w23 ⟨rfl, hb⟩; refine ⟨_, rfl, ?_⟩; have n0_ := Aside0.mk (below_step (by repeat (first | (with_reducible first | exact HB.out | apply below_alloc | apply pw_below_drewN | apply below_drew1) | exact HB.out)) hb); clear HB; have HB := n0_; clear n0_; (try clear hb); (try clear hb2); (try clear hk); (try clear hi)) | ((with_reducible refine gate_callee (f := 51) rfl ?_); refine goesL_ (some 35) rfl rfl Tryd.func51 (by kernel_rfl) rfl #[.int .i64 (Int.tmod a0 10)] rfl (by (try simp only [List.map_toArray, List.map_cons, List.map_nil]); first | done | rfl | (simp only [List.length_drop, List.length_take]; rfl)) ?_; (with_reducible refine (ih k (by omega) (Int.tmod a0 10) t186 _ A21.out).mono ?_); rintro e w24 ⟨rfl, hb⟩; refine ⟨_, rfl, ?_⟩; have n0_ := Aside0.mk (below_step (by repeat (first | (with_reducible first | exact HB.out | apply below_alloc | apply pw_below_drewN | apply below_drew1) | exact HB.out)) hb); clear HB; have HB := n0_; clear n0_; (try clear hb); (try clear hb2); (try clear hk); (try clear hi)))
          go_ret
          exact ⟨by first | rfl | (simp [errW_none, errW_some] <;> rfl) | (simp [*, errW_none, errW_some] <;> rfl), by repeat (first | (with_reducible first | exact HB.out | apply below_alloc | apply pw_below_drewN | apply below_drew1) | exact HB.out)⟩
        · rw [if_neg c22] at H
          exact absurd H (by simp)
end Go.Proofs.YtfaelejeihmgcaaDoor.Stp
end

section
namespace Go.Proofs.YtfaelejeihmgcaaDoor.Stp
open Go.RowKit Go.Proofs.YtfaelejeihmgcaaDoorW.PrintWords
def B (l : List UInt8) : ByteArray := ⟨l.toArray⟩
theorem B_size (l : List UInt8) : (B l).size = l.length := by show l.toArray.size = _; simp
theorem B_app (a b : List UInt8) : B a ++ B b = B (a ++ b) := by
  apply ByteArray.ext
  simp [B, ByteArray.data_append]
theorem dw64 (v : Int) (h0 : -9223372036854775808 ≤ v) (h1 : v ≤ 9223372036854775807) : wrap64 v = v := w64 h0 h1
theorem dec_step (u : Nat) (h : 10 ≤ u) : Lib.decDigits u = Lib.decDigits (u / 10) ++ Lib.decDigits (u % 10) := by
  conv => lhs; rw [Lib.decDigits, dif_neg (by omega)]
  rw [Lib.decDigits_one (i := u % 10) (by omega)]
theorem str1 (u : Nat) (h : u < 10) : strOfNums [wrap64 (48 + (u : Int)) % 256] = B (Lib.decDigits u) := by
  rw [Lib.decDigits_one h, dw64 _ (by omega) (by omega)]
  unfold strOfNums
  have e : ((48 + (u : Int)) % 256).toNat = 48 + u := by omega
  simp only [List.map_cons, List.map_nil, e]
  rfl
theorem dec_len (u : Nat) : (Lib.decDigits u).length ≤ u + 1 := by
  induction u using Nat.strongRecOn with
  | ind u ih =>
    by_cases h : u < 10
    · rw [Lib.decDigits_one h]; simp
    · have := ih (u / 10) (by omega)
      rw [dec_step u (by omega), List.length_append, Lib.decDigits_one (i := u % 10) (by omega)]
      simp
      omega
theorem dec_short : ∀ (k u : Nat), u < 10 ^ (k + 1) → (Lib.decDigits u).length ≤ k + 1 := by
  intro k
  induction k with
  | zero => intro u hu; rw [Lib.decDigits_one (by omega)]; simp
  | succ k ih =>
    intro u hu
    by_cases h : u < 10
    · rw [Lib.decDigits_one h]; simp
    · have := ih (u / 10) (by rw [Nat.pow_succ] at hu; omega)
      rw [dec_step u (by omega), List.length_append, Lib.decDigits_one (i := u % 10) (by omega)]
      simp
      omega
theorem digits_f : ∀ (k u : Nat), u < 10 ^ k → u ≤ 9223372036854775807 → cachepotref3_Digits.f (k + 1) (u : Int) = some (B (Lib.decDigits u)) := by
  intro k
  induction k with
  | zero =>
    intro u hu _
    have h0 : u = 0 := by omega
    subst h0
    rw [cachepotref3_Digits.f, if_neg (by omega), if_neg (by omega), if_pos (by omega), str1 0 (by omega)]
  | succ k ih =>
    intro u hu hb
    rw [cachepotref3_Digits.f, if_neg (by omega), if_neg (by omega)]
    by_cases h : u < 10
    · rw [if_pos (by omega), str1 u h]
    · rw [if_neg (by omega)]
      have hq : Int.tdiv (u : Int) 10 = ((u / 10 : Nat) : Int) := by rw [Int.tdiv_eq_ediv_of_nonneg (by omega)]; omega
      have hm : Int.tmod (u : Int) 10 = ((u % 10 : Nat) : Int) := by rw [Int.tmod_eq_emod_of_nonneg (by omega)]; omega
      have hk : 1 ≤ k := by
        rcases Nat.eq_zero_or_pos k with rfl | hk
        · simp at hu; omega
        · exact hk
      have h10 : 10 ^ 1 ≤ 10 ^ k := Nat.pow_le_pow_right (by omega) hk
      have e1 := ih (u / 10) (by rw [Nat.pow_succ] at hu; omega) (by omega)
      have e2 := ih (u % 10) (by omega) (by omega)
      have l3 : (Lib.decDigits (u % 10)).length = 1 := by rw [Lib.decDigits_one (by omega)]; rfl
      have l4 := dec_len (u / 10)
      rw [hq, hm, dw64 _ (by omega) (by omega), e1, e2]
      simp only [Option.bind_some]
      rw [if_pos (by rw [B_size, B_size, l3]; omega), B_app, ← dec_step u (by omega)]
theorem neg_div (u : Nat) : Int.tdiv (-(u : Int)) 10 = -((u / 10 : Nat) : Int) := by rw [Int.neg_tdiv, Int.tdiv_eq_ediv_of_nonneg (by omega)]; omega
theorem neg_mod (u : Nat) : Int.tmod (-(u : Int)) 10 = -((u % 10 : Nat) : Int) := by rw [Int.neg_tmod, Int.tmod_eq_emod_of_nonneg (by omega)]; omega
theorem ndigits_f : ∀ (k u : Nat), 1 ≤ u → u < 10 ^ k → u ≤ 9223372036854775808 → cachepotref3_Digits.f k (-(u : Int)) = some (B (45 :: Lib.decDigits u)) := by
  intro k
  induction k with
  | zero => intro u h1 hu; omega
  | succ k ih =>
    intro u h1 hu hb
    rw [cachepotref3_Digits.f]
    by_cases h : u < 10
    · rw [if_neg (by omega), if_pos (by omega), show (48 : Int) - -(u : Int) = 48 + (u : Int) by omega]
      simp only [Option.bind_some]
      rw [str1 u h, B_size, if_pos (by rw [Lib.decDigits_one h]; simp)]
      rw [show (⟨#[45]⟩ : ByteArray) = B [45] from rfl, B_app]
      rfl
    · rw [if_pos (by omega), neg_div, neg_mod, dw64 _ (by omega) (by omega), ih (u / 10) (by omega) (by rw [Nat.pow_succ] at hu; omega) (by omega), show (48 : Int) - -((u % 10 : Nat) : Int) = 48 + ((u % 10 : Nat) : Int) by omega]
      simp only [Option.bind_some]
      have l3 : (Lib.decDigits (u % 10)).length = 1 := by rw [Lib.decDigits_one (by omega)]; rfl
      have l4 := dec_len (u / 10)
      rw [str1 (u % 10) (by omega), if_pos (by rw [B_size, B_size, l3, List.length_cons]; omega), B_app, List.cons_append, ← dec_step u (by omega)]
theorem Digits_f (v : Int) (h0 : -9223372036854775808 ≤ v) (h1 : v ≤ 9223372036854775807) : cachepotref3_Digits.f 30 v = some (itoaB v) := by
  unfold itoaB Lib.itoa
  have hp : (9223372036854775808 : Nat) < 10 ^ 29 := by decide
  by_cases h : v < 0
  · rw [if_pos h]
    have e : v = -((v.natAbs : Nat) : Int) := by omega
    have hx : v.natAbs < 10 ^ 30 := by
      have : (10 : Nat) ^ 29 ≤ 10 ^ 30 := Nat.pow_le_pow_right (by omega) (by omega)
      omega
    have := ndigits_f 30 v.natAbs (by omega) hx (by omega)
    rw [← e] at this
    exact this
  · rw [if_neg h]
    have e : v = ((v.toNat : Nat) : Int) := by omega
    have := digits_f 29 v.toNat (by omega) (by omega)
    rw [← e] at this
    exact this
/-- a number within a million is short -/
theorem itoa_size (v : Int) (h0 : -1000000 ≤ v) (h1 : v ≤ 1000000) : (itoaB v).size ≤ 8 := by
  show (Lib.itoa v).toArray.size ≤ 8
  rw [List.size_toArray]
  unfold Lib.itoa
  have h10 : (1000000 : Nat) < 10 ^ 7 := by decide
  split
  · have := dec_short 6 v.natAbs (by omega)
    rw [List.length_cons]
    omega
  · have := dec_short 6 v.toNat (by omega)
    omega
end Go.Proofs.YtfaelejeihmgcaaDoor.Stp
end

section
namespace Go.Proofs.YtfaelejeihmgcaaDoor.Wd
open Go.RowKit Go.Proofs.YtfaelejeihmgcaaDoorW.PrintWords Go.Proofs.YtfaelejeihmgcaaDoorW.PrintLast
def hex1 (c : UInt8) : List UInt8 := [hexD (c.toNat / 16), hexD (c.toNat % 16)]
def hexB (s : ByteArray) : List UInt8 := if s.size = 0 then [45] else s.data.toList.flatMap hex1
def cachepotref3_Hex.f (a0 : ByteArray) : Option ByteArray := if a0.size ≤ 1099511627776 then some ⟨(hexB a0).toArray⟩ else none
theorem ret_strF {a b : ByteArray} (h : a = b) : Ending.returned (.string a) = .returned (.string b) := by rw [h]
abbrev DIGF : ByteArray := ⟨#[48, 49, 50, 51, 52, 53, 54, 55, 56, 57, 97, 98, 99, 100, 101, 102]⟩
theorem digF_at : ∀ h : Fin 16, DIGF[h.val]? = some (hexD h.val) := by decide
theorem index_dig (n : Nat) (hn : n < 16) (x : Int) (hx : x = n) (W : World) : (Instr.index 9 (.string DIGF) (.int .u8 x)).run Tryd.prog W = .ok (.int .u8 ((hexD n).toNat : Int)) W := by
  subst hx
  have h1 : (0 : Int) ≤ (n : Int) ∧ (n : Int) < (DIGF.size : Int) := ⟨by omega, by show (n : Int) < (16 : Nat); omega⟩
  have e := digF_at ⟨n, hn⟩
  have h2 : n < DIGF.size := hn
  rw [getElem?_pos DIGF n h2] at e
  have e3 : DIGF[n] = hexD n := Option.some.inj e
  rw [run_index_string W 9 DIGF .u8 (n : Int) Tryd.underlying9, dif_pos h1]
  have e2 : ((n : Nat) : Int).toNat = n := by omega
  simp only [e2, e3]
set_option maxHeartbeats 4000000 in
set_option maxRecDepth 100000 in
theorem cachepotref3_Hex.calls (a0 : ByteArray) (r : ByteArray) (w : World) (h : cachepotref3_Hex.f a0 = some r) :
    Calls Tryd.prog 61 #[.string a0] w fun e w' => e = .returned (.string r) ∧ Below w.heap.size w w' := by
  have hs : a0.size ≤ 1099511627776 := by
    unfold cachepotref3_Hex.f at h
    split at h
    · assumption
    · cases h
  have hr : Aside0 (⟨(hexB a0).toArray⟩ = r) := ⟨by unfold cachepotref3_Hex.f at h; rw [if_pos hs] at h; exact Option.some.inj h⟩
  clear h
  obtain ⟨i0, hi, hz0, hz1, hz2⟩ := info_parts info5
  by_cases h0 : a0.size = 0
  · have e0 : (a0.toList == ([] : List UInt8)) = true := by
      rw [Lib.toList_data, beq_iff_eq, ← List.length_eq_zero_iff, ← Lib.size_eq]; exact h0
    have e1 : a0.toList.isEmpty = true := by
      rw [Lib.toList_data, List.isEmpty_iff, ← List.length_eq_zero_iff, ← Lib.size_eq]; exact h0
    have H0 := Lib.hid h0
    clear h0
    go_enter Tryd.func61, Tryd.ntmps61
    go_wp2
    go_ret
    exact ⟨ret_strF (by rw [← hr.out, hexB, if_pos H0.out]), Below.refl _ _⟩
  · have e1 : a0.toList.isEmpty = false := by
      rw [Lib.toList_data]
      rw [Lib.size_eq] at h0
      cases hl : a0.data.toList with
      | nil => rw [hl] at h0; simp at h0
      | cons => rfl
    go_enter Tryd.func61, Tryd.ntmps61
    go_wp2
    go_loopw [3, 4] (fun v i wr => ∃ k : Nat, k ≤ a0.size ∧ i = .int .i64 k ∧ wr.ownsRow w.heap.size 5 1 v (2 * k) (Lib.byteCells ((a0.data.toList.take k).flatMap hex1)) ∧ Below w.heap.size w wr) (fun _ i _ => a0.size - (intOf i).toNat)
    case atStart => exact ⟨0, Nat.zero_le _, rfl, ⟨by simp [Lib.byteCells], .inl ⟨rfl, rfl⟩⟩, Below.refl _ _⟩
    case round =>
      obtain ⟨k, hk, rfl, hown, hbw⟩ := hrel
      by_cases hlt : k < a0.size
      · have hc255 := a0[k].toNat_lt
        have ix1 : ∀ W : World, (Instr.index 9 (.string DIGF) (.int .u8 (((a0[k].toNat : Nat) : Int) / 16))).run Tryd.prog W = .ok (.int .u8 ((hexD (a0[k].toNat / 16)).toNat : Int)) W := fun W => index_dig _ (by omega) _ (by omega) W
        have ix2 : ∀ W : World, (Instr.index 9 (.string DIGF) (.int .u8 (((a0[k].toNat : Nat) : Int) % 16))).run Tryd.prog W = .ok (.int .u8 ((hexD (a0[k].toNat % 16)).toNat : Int)) W := fun W => index_dig _ (by omega) _ (by omega) W
        have eq1 : IntKind.u8.wrap (((a0[k].toNat : Nat) : Int).tdiv 16) = ((a0[k].toNat : Nat) : Int) / 16 := IntWalk.u8_quo _ _ (by omega)
        have eq3 : IntKind.u8.wrap (((a0[k].toNat : Nat) : Int) / 16) = ((a0[k].toNat : Nat) : Int) / 16 := IntWalk.u8_in _ (by omega)
        have eq2 : ((a0[k].toNat : Nat) : Int).tmod 16 = ((a0[k].toNat : Nat) : Int) % 16 := IntWalk.rem_in _ _ (by omega)
        have hbe := hbw.size
        have hstep : Lib.byteCells ((a0.data.toList.take k).flatMap hex1) ++ [.int .u8 ((hexD (a0[k].toNat / 16)).toNat : Int), .int .u8 ((hexD (a0[k].toNat % 16)).toNat : Int)] = Lib.byteCells ((a0.data.toList.take (k + 1)).flatMap hex1) := by
          rw [List.take_succ_eq_append_getElem (by rw [← Lib.size_eq]; exact hlt), List.flatMap_append, Lib.byteCells_append]
          congr 1
        have Hstep := Lib.hid hstep
        clear hstep
        go_wp2_with fail
        go_region_held3 (fun w' => True) (exact trivial)
          ((refine step_append_lies _ (by rfl) _ _ _ (by rfl) w.heap.size 5 i0 _ 1 1 Tryd.underlying32 hi hz0 hz1 hz2 rfl (by omega) u3 (2 * k) _ (by rfl) ((hown.alloc _).drew)
              ⟨wr.heap.size, 0, none⟩ 2 2 [.int .u8 ((hexD (a0[k].toNat / 16)).toNat : Int), .int .u8 ((hexD (a0[k].toNat % 16)).toNat : Int)] (by rfl) (by rfl) (World.news_of_block (cs := #[.int .u8 ((hexD (a0[k].toNat / 16)).toNat : Int), .int .u8 ((hexD (a0[k].toNat % 16)).toNat : Int)]) (t := 5) (fr := (0, 0)) (heap_alloc_new wr _)) (by simp [Value.oneCell'])
              (by omega) (by unfold maxLen; omega) (by omega) (by simp; omega) (wr.heap.size + 1) (by simp) ?_; intro gg cap w1 hown1 hgrow hat hlt1))
        all_goals (
          rw [Hstep.out] at hown1
          have hb1 : Below w.heap.size w w1 := (((hbw.alloc hbe _).drew).grown hgrow (by simp; omega) (fun k hk => (hown.lt k hk).1))
          go_wp2
          go_roundw
          case rel => exact ⟨k + 1, hlt, by simp, hown1, hb1⟩
          case measure => simp [intOf]; omega)
      · have hke : k = a0.size := by omega
        subst hke
        have hnum : Lib.byteCells ((a0.data.toList.take a0.size).flatMap hex1) = nums .u8 (((a0.data.toList.take a0.size).flatMap hex1).map fun b => (b.toNat : Int)) := by
          simp [Lib.byteCells, nums]
        have hstr : strOfNums (((a0.data.toList.take a0.size).flatMap hex1).map fun b => (b.toNat : Int)) = ⟨(hexB a0).toArray⟩ := by
          unfold strOfNums hexB
          rw [if_neg h0, List.take_of_length_le (by rw [← Lib.size_eq]; exact Nat.le_refl _), List.map_map]
          congr 2
          rw [List.map_congr_left (g := id) (fun b _ => by simp), List.map_id]
        have hcv : (convert 32 9 u3).run Tryd.prog wr = .ok (.string ⟨(hexB a0).toArray⟩) wr := by
          rw [hnum] at hown
          rw [own_string Tryd.underlying32 Tryd.underlying5 Tryd.underlying9 hown, hstr]
        clear hnum hstr hown
        go_wp2
        go_ret
        exact ⟨ret_strF hr.out, hbw⟩
end Go.Proofs.YtfaelejeihmgcaaDoor.Wd
end

section
namespace Go.Proofs.YtfaelejeihmgcaaDoor.Wd
open Go.RowKit Go.Proofs.YtfaelejeihmgcaaDoorW.PrintWords Go.Proofs.YtfaelejeihmgcaaDoorW.PrintLast
def cachepotref3_Quote.f (a0 : ByteArray) : Option ByteArray := if a0.size ≤ 1099511627776 then some ⟨(quoteB a0).toArray⟩ else none
theorem mayB_bytes (s : ByteArray) (i : Nat) (hi : i < s.size) (h : mayB s i = true) : ¬ byteAt s i = 34 ∧ ¬ byteAt s i = 92 ∧ ¬ byteAt s i = 32 := by
  have key : ∀ c : UInt8, c.toNat < 128 → mayR c.toNat 1 = false → ¬ byteAt s i = c := by
    intro c h1 h2 h3
    have e : byteAt s i = s[i] := get_lt s i hi
    rw [h3] at e
    have hd := decode_ascii s i hi (by rw [← e]; exact h1)
    unfold mayB at h
    rw [hd, ← e] at h
    rw [h] at h2
    cases h2
  exact ⟨key 34 (by decide) (by decide), key 92 (by decide) (by decide), key 32 (by decide) (by decide)⟩
theorem width_ascii (s : ByteArray) (i : Nat) (hi : i < s.size) (c : UInt8) (h : byteAt s i = c) (hc : c.toNat < 128) : width s i = 1 := by
  have e : byteAt s i = s[i] := get_lt s i hi
  unfold width
  rw [decode_ascii s i hi (by rw [← e, h]; exact hc)]
theorem app_data (a b : ByteArray) : (a ++ b).data.toList = a.data.toList ++ b.data.toList := by rw [ByteArray.data_append, Array.toList_append]
theorem app_size (a b : ByteArray) : (a ++ b).size = a.size + b.size := by rw [Lib.size_eq, Lib.size_eq, Lib.size_eq, app_data, List.length_append]
theorem byte_ex (s : ByteArray) (i : Nat) (hi : i < s.size) : bytesAt s i 1 = [byteAt s i] := by
  unfold bytesAt byteAt
  rw [List.drop_eq_getElem_cons (by rw [← Lib.size_eq]; exact hi), get_lt s i hi]
  rfl
theorem u8_toNat (c : UInt8) (n : Nat) (hn : n < 256) : ((c.toNat : Int) == (n : Int)) = decide (c = UInt8.ofNat n) := by
  rw [Bool.eq_iff_iff, beq_iff_eq, decide_eq_true_eq]
  constructor
  · intro h
    apply UInt8.toNat_inj.1
    simp; omega
  · intro h
    rw [h]; simp; omega
theorem bytesAt_take (s : ByteArray) (pos n k : Nat) (hk : pos ≤ k) (hj : k < pos + n) (hn : pos + n ≤ s.size) : (bytesAt s pos n).take (k + 1 - pos) = (bytesAt s pos n).take (k - pos) ++ [byteAt s k] := by
  have e : k + 1 - pos = (k - pos) + 1 := by omega
  have hl : k - pos < (bytesAt s pos n).length := by
    unfold bytesAt
    rw [List.length_take, List.length_drop, ← Lib.size_eq]; omega
  rw [e, List.take_succ_eq_append_getElem hl]
  have h1 : (bytesAt s pos n)[k - pos]? = some (byteAt s k) := by
    have e2 : pos + (k - pos) = k := by omega
    unfold bytesAt byteAt
    rw [List.getElem?_take_of_lt (by omega), List.getElem?_drop, e2, get_lt s k (by omega), List.getElem?_eq_getElem (by rw [← Lib.size_eq]; omega)]
    rfl
  rw [List.getElem?_eq_getElem hl] at h1
  rw [Option.some.inj h1]
theorem bytesAt_all (s : ByteArray) (pos n : Nat) : (bytesAt s pos n).take n = bytesAt s pos n := List.take_of_length_le (List.length_take_le _ _)
theorem hexQs_len (l : List UInt8) : (l.flatMap hexQ).length = 3 * l.length := by
  induction l with
  | nil => rfl
  | cons c l ih => rw [List.flatMap_cons, List.length_append, ih]; simp [hexQ]; omega
theorem quoteFrom_endI (s : ByteArray) (fuel pos : Nat) (h : ¬ pos < s.size) : quoteFrom s fuel pos = [] := by
  cases fuel with
  | zero => rfl
  | succ f => rw [quoteFrom, if_neg h]
theorem plainFrom_endI (s : ByteArray) (fuel pos : Nat) (h : ¬ pos < s.size) : plainFrom s fuel pos = true := by
  cases fuel with
  | zero => rfl
  | succ f => rw [plainFrom, if_neg h]
theorem ba_extI {a b : ByteArray} (h : a.data.toList = b.data.toList) : a = b := by
  obtain ⟨a⟩ := a
  obtain ⟨b⟩ := b
  exact congrArg ByteArray.mk (Array.toList_inj.1 h)
/-- the bytes of a rune that is escaped, one place -/
theorem hex_of (s : ByteArray) (k : Nat) (hk : k < s.size) : hexB (s.extract k (k + 1)) = hex1 (byteAt s k) := by
  have h1 := extract_bytes s k 1
  have hz : ¬ (s.extract k (k + 1)).size = 0 := by rw [Lib.size_eq, h1, byte_ex s k hk]; simp
  rw [hexB, if_neg hz, h1, byte_ex s k hk]
  simp
theorem hex_at (c : UInt8) (o : ByteArray) : (o ++ ((⟨#[92]⟩ : ByteArray) ++ (⟨(hex1 c).toArray⟩ : ByteArray))).data.toList = o.data.toList ++ hexQ c := by
  rw [app_data, app_data]
  rfl
set_option maxHeartbeats 4000000 in
set_option maxRecDepth 100000 in
theorem cachepotref3_Quote.calls (a0 : ByteArray) (r : ByteArray) (w : World) (h : cachepotref3_Quote.f a0 = some r) :
    Calls Tryd.prog 28 #[.string a0] w fun e w' => e = .returned (.string r) ∧ Below w.heap.size w w' := by
  have hs : a0.size ≤ 1099511627776 := by
    unfold cachepotref3_Quote.f at h
    split at h
    · assumption
    · cases h
  have hr : Aside0 (⟨(quoteB a0).toArray⟩ = r) := ⟨by unfold cachepotref3_Quote.f at h; rw [if_pos hs] at h; exact Option.some.inj h⟩
  clear h
  go_enter Tryd.func28, Tryd.ntmps28
  go_wp2_with fail
  go_loopw [3, 4, 5] (fun v3 v4 v5 wr => ∃ (av : Bool) (o : ByteArray) (pos fuel : Nat), v3 = .bool av ∧ v4 = .string o ∧ v5 = .int .i64 (pos : Int) ∧ Below w.heap.size w wr ∧ Aside0 (o.data.toList ++ quoteFrom a0 fuel pos = 34 :: quoteFrom a0 a0.size 0) ∧ Aside0 ((av && plainFrom a0 fuel pos) = plainB a0) ∧ a0.size ≤ pos + fuel ∧ o.size ≤ 1 + 3 * pos ∧ pos ≤ a0.size) (fun _ _ v5 _ => a0.size - (intOf v5).toNat)
  case atStart => 
    refine ⟨!a0.toList.isEmpty, ⟨#[34]⟩, 0, a0.size, rfl, rfl, rfl, Below.refl _ _, ⟨rfl⟩, ⟨?_⟩, by omega, by decide, by omega⟩
    rw [plainB, Bool.and_comm]
    congr 1
    rw [Lib.toList_data, Bool.eq_iff_iff, decide_eq_true_eq, Lib.size_eq]
    cases a0.data.toList <;> simp
  case round =>
    obtain ⟨av, o, pos, fuel, rfl, rfl, rfl, hbw, hq, hpl, hfu, hol, hpz⟩ := hrel
    by_cases hp : pos < a0.size
    · have hpf := plain_f 0 a0 pos hp hs
      have hwd := width_pos a0 pos
      have hwl := width_le a0 pos hp
      obtain ⟨f, rfl⟩ : ∃ f, fuel = f + 1 := ⟨fuel - 1, by omega⟩
      have q1 := hq.out
      have p1 := hpl.out
      rw [quoteFrom, if_pos hp, ← List.append_assoc] at q1
      rw [plainFrom, if_pos hp] at p1
      clear hq hpl
      have hba : byteAt a0 pos = a0[pos] := get_lt a0 pos hp
      cases hm : mayB a0 pos
      · rw [hm, if_neg (by decide)] at hpf
        have hpA := Aside0.mk hpf
        clear hpf
        have p2 : Aside0 ((false && plainFrom a0 f (pos + width a0 pos)) = plainB a0) := ⟨by rw [hm] at p1; cases av <;> exact p1⟩
        clear p1
        have hbe := extract_bytes a0 pos 1
        have hbz : (a0.extract pos (pos + 1)).size = 1 := by simp; omega
        have hsl : ∀ W : World, (Instr.slice 9 (.string a0) (some (.int .i64 (pos : Int))) (some (.int .i64 ((pos : Int) + 1))) none).run Tryd.prog W = .ok (.string (a0.extract pos (pos + 1))) W := slice_at a0 pos 1 (by omega)
        have hcat : ¬ 9223372036854775807 < o.size + (1 + (a0.extract pos (pos + 1)).size) := by omega
        have hcat1 : ¬ 9223372036854775807 < 1 + (a0.extract pos (pos + 1)).size := by omega
        have hcat2 : ¬ 9223372036854775807 < o.size + 1 := by omega
        by_cases h2 : byteAt a0 pos = 34 ∨ byteAt a0 pos = 92
        · have hw1 : width a0 pos = 1 := by
            rcases h2 with h | h
            · exact width_ascii a0 pos hp 34 h (by decide)
            · exact width_ascii a0 pos hp 92 h (by decide)
          have hq1 : quote1 a0 pos = [92, byteAt a0 pos] := by
            rcases h2 with h | h <;> (rw [quote1, hm, h]; rfl)
          rw [hw1] at q1 p2
          have q2 : Aside0 ((o ++ ((⟨#[92]⟩ : ByteArray) ++ a0.extract pos (pos + 1))).data.toList ++ quoteFrom a0 f (pos + 1) = 34 :: quoteFrom a0 a0.size 0) := ⟨by
            rw [app_data, app_data, hbe, byte_ex a0 pos hp, ← q1, hq1]; rfl⟩
          have hoz : (o ++ ((⟨#[92]⟩ : ByteArray) ++ a0.extract pos (pos + 1))).size ≤ 1 + 3 * (pos + 1) := by
            have e : (⟨#[92]⟩ : ByteArray).size = 1 := rfl
            rw [app_size, app_size, e]; omega
          clear q1 hq1 hw1 hbe hbz hm
          rcases h2 with h | h
          · have t34 : ((a0[pos].toNat : Int) == 34) = true := by rw [← hba]; exact (u8_toNat _ 34 (by decide)).trans (decide_eq_true h)
            clear h hba
            go_wp2_with fail
            refine (cachepotref3_plain.calls 3 a0 (pos : Int) 0 _ hpA.out).mono ?_
            rintro e w1 ⟨rfl, ⟨nd, rfl⟩⟩
            cases av
            all_goals (
              go_wp2
              go_roundw
              case rel => exact ⟨_, _, pos + 1, f, rfl, rfl, by simp, pw_below_drewN hbw nd, q2, p2, by omega, hoz, by omega⟩
              case measure => simp [intOf]; omega)
          · have t34 : ((a0[pos].toNat : Int) == 34) = false := by rw [← hba, h]; rfl
            have t92 : ((a0[pos].toNat : Int) == 92) = true := by rw [← hba]; exact (u8_toNat _ 92 (by decide)).trans (decide_eq_true h)
            clear h hba
            go_wp2_with fail
            refine (cachepotref3_plain.calls 3 a0 (pos : Int) 0 _ hpA.out).mono ?_
            rintro e w1 ⟨rfl, ⟨nd, rfl⟩⟩
            cases av
            all_goals (
              go_wp2
              go_roundw
              case rel => exact ⟨_, _, pos + 1, f, rfl, rfl, by simp, pw_below_drewN hbw nd, q2, p2, by omega, hoz, by omega⟩
              case measure => simp [intOf]; omega)
        · have n34 : ¬ byteAt a0 pos = 34 := fun h => h2 (.inl h)
          have n92 : ¬ byteAt a0 pos = 92 := fun h => h2 (.inr h)
          have t34 : ((a0[pos].toNat : Int) == 34) = false := by rw [← hba]; exact (u8_toNat _ 34 (by decide)).trans (decide_eq_false n34)
          have t92 : ((a0[pos].toNat : Int) == 92) = false := by rw [← hba]; exact (u8_toNat _ 92 (by decide)).trans (decide_eq_false n92)
          clear h2
          by_cases h32 : byteAt a0 pos = 32
          · have hw1 : width a0 pos = 1 := width_ascii a0 pos hp 32 h32 (by decide)
            have hq1 : quote1 a0 pos = [32] := by
              rw [quote1, hm, h32, if_pos (by decide), hw1, byte_ex a0 pos hp, h32]
            rw [hw1] at q1 p2
            have q2 : Aside0 ((o ++ (⟨#[32]⟩ : ByteArray)).data.toList ++ quoteFrom a0 f (pos + 1) = 34 :: quoteFrom a0 a0.size 0) := ⟨by
              rw [app_data, ← q1, hq1]⟩
            have hoz : (o ++ (⟨#[32]⟩ : ByteArray)).size ≤ 1 + 3 * (pos + 1) := by
              have e : (⟨#[32]⟩ : ByteArray).size = 1 := rfl
              rw [app_size, e]; omega
            have t32 : ((a0[pos].toNat : Int) == 32) = true := by rw [← hba]; exact (u8_toNat _ 32 (by decide)).trans (decide_eq_true h32)
            clear q1 hq1 hw1 hbe hbz hm h32 hba n34 n92 hsl
            go_wp2_with fail
            refine (cachepotref3_plain.calls 3 a0 (pos : Int) 0 _ hpA.out).mono ?_
            rintro e w1 ⟨rfl, ⟨nd, rfl⟩⟩
            cases av
            all_goals (
              go_wp2
              go_roundw
              case rel => exact ⟨_, _, pos + 1, f, rfl, rfl, by simp, pw_below_drewN hbw nd, q2, p2, by omega, hoz, by omega⟩
              case measure => simp [intOf]; omega)
          · have t32 : ((a0[pos].toNat : Int) == 32) = false := by rw [← hba]; exact (u8_toNat _ 32 (by decide)).trans (decide_eq_false h32)
            have hq1 : quote1 a0 pos = (bytesAt a0 pos (width a0 pos)).flatMap hexQ := by
              rw [quote1, hm, if_neg (by simpa using h32), if_neg (by simp [n34, n92])]
            rw [hq1] at q1
            have q2 := Aside0.mk q1
            have hR := Aside0.mk (Rune_f 0 a0 pos hp hs)
            generalize hrr : ((Utf8.decode a0 pos).1 : Int) = rr at hR
            have hwe : ((Utf8.decode a0 pos).2 : Int) = (width a0 pos : Int) := rfl
            rw [hwe] at hR
            clear hwe hrr q1 hq1 hm hba n34 n92 h32 hsl hcat hcat1 hcat2 hbe hbz
            generalize hwn : width a0 pos = n at *
            clear hwn
            go_wp2_with fail
            refine (cachepotref3_plain.calls 3 a0 (pos : Int) 0 _ hpA.out).mono ?_
            rintro e w1 ⟨rfl, ⟨nd, rfl⟩⟩
            have hb1 := pw_below_drewN hbw nd
            cases av
            all_goals (
              go_wp2_with fail
              refine (cachepotref1_Rune.calls 3 a0 (pos : Int) rr (n : Int) _ hR.out).mono ?_
              rintro e w2 ⟨rfl, ⟨nd2, rfl⟩⟩
              have hb2 : Below w.heap.size w (wr.drewN (nd + nd2)) := pw_below_drewN hbw (nd + nd2)
              go_wp2_with fail
              go_loopw [4, 9] (fun v4 v9 wi => ∃ (o2 : ByteArray) (k : Nat), v4 = .string o2 ∧ v9 = .int .i64 (k : Int) ∧ pos ≤ k ∧ k ≤ pos + n ∧ Below w.heap.size w wi ∧ Aside0 (o2.data.toList = o.data.toList ++ ((bytesAt a0 pos n).take (k - pos)).flatMap hexQ)) (fun _ v9 _ => pos + n - (intOf v9).toNat)
              case atStart => exact ⟨o, pos, rfl, rfl, by omega, by omega, hb2, ⟨by simp⟩⟩
              case round =>
                obtain ⟨o2, k, rfl, rfl, hk1, hk2, hbi, hacc⟩ := hrel
                have ho2 : o2.size ≤ 1 + 3 * k := by
                  rw [Lib.size_eq, hacc.out, List.length_append, hexQs_len, ← Lib.size_eq]
                  have : ((bytesAt a0 pos n).take (k - pos)).length ≤ k - pos := List.length_take_le _ _
                  omega
                by_cases hlt : k < pos + n
                · have hka : k < a0.size := by omega
                  have hsl : ∀ W : World, (Instr.slice 9 (.string a0) (some (.int .i64 (k : Int))) (some (.int .i64 ((k : Int) + 1))) none).run Tryd.prog W = .ok (.string (a0.extract k (k + 1))) W := slice_at a0 k 1 (by omega)
                  have hHx : Aside0 (cachepotref3_Hex.f (a0.extract k (k + 1)) = some ⟨(hex1 (byteAt a0 k)).toArray⟩) := ⟨by
                    rw [cachepotref3_Hex.f, if_pos (by simp; omega), hex_of a0 k hka]⟩
                  have hzx : (⟨(hex1 (byteAt a0 k)).toArray⟩ : ByteArray).size = 2 := rfl
                  have hx3 : Aside0 ((o2 ++ ((⟨#[92]⟩ : ByteArray) ++ (⟨(hex1 (byteAt a0 k)).toArray⟩ : ByteArray))).data.toList = o.data.toList ++ ((bytesAt a0 pos n).take (k + 1 - pos)).flatMap hexQ) := ⟨by
                    rw [hex_at, hacc.out, bytesAt_take a0 pos n k hk1 hlt hwl, List.flatMap_append, List.append_assoc]
                    simp⟩
                  generalize hxx : (⟨(hex1 (byteAt a0 k)).toArray⟩ : ByteArray) = hx at hHx hx3 hzx
                  clear hxx hacc
                  have hc1 : ¬ 9223372036854775807 < o2.size + (1 + hx.size) := by omega
                  have hc2 : ¬ 9223372036854775807 < 1 + hx.size := by omega
                  clear hzx ho2
                  go_wp2_with fail
                  refine (cachepotref3_Hex.calls (a0.extract k (k + 1)) hx _ hHx.out).mono ?_
                  rintro e w3 ⟨rfl, hb3⟩
                  have hb4 : Below w.heap.size w w3 := hbi.trans (hb3.mono hbi.size)
                  go_wp2
                  go_roundw
                  case rel => exact ⟨_, k + 1, rfl, by simp, by omega, by omega, hb4, hx3⟩
                  case measure => simp [intOf]; omega
                · have hkk : k = pos + n := by omega
                  have q3 : Aside0 (o2.data.toList ++ quoteFrom a0 f (pos + n) = 34 :: quoteFrom a0 a0.size 0) := ⟨by
                    rw [hacc.out, hkk, show pos + n - pos = n by omega, bytesAt_all]; exact q2.out⟩
                  have ho3 : o2.size ≤ 1 + 3 * (pos + n) := by omega
                  clear hacc q2
                  go_wp2
                  go_roundw
                  case rel => exact ⟨_, o2, pos + n, f, rfl, rfl, by simp, hbi, q3, p2, by omega, ho3, by omega⟩
                  case measure => simp [intOf]; omega)
      · rw [hm, if_pos rfl] at hpf
        have hpA := Aside0.mk hpf
        clear hpf
        obtain ⟨n34, n92, n32⟩ := mayB_bytes a0 pos hp hm
        have t34 : ((a0[pos].toNat : Int) == 34) = false := by rw [← hba]; exact (u8_toNat _ 34 (by decide)).trans (decide_eq_false n34)
        have t92 : ((a0[pos].toNat : Int) == 92) = false := by rw [← hba]; exact (u8_toNat _ 92 (by decide)).trans (decide_eq_false n92)
        have t32 : ((a0[pos].toNat : Int) == 32) = false := by rw [← hba]; exact (u8_toNat _ 32 (by decide)).trans (decide_eq_false n32)
        have hq1 : quote1 a0 pos = bytesAt a0 pos (width a0 pos) := by rw [quote1, hm]; rfl
        have hsl := slice_at a0 pos (width a0 pos) hwl
        have hbe := extract_bytes a0 pos (width a0 pos)
        have hbz : (a0.extract pos (pos + width a0 pos)).size = width a0 pos := by simp; omega
        rw [hq1, ← hbe, ← app_data] at q1
        have q2 := Aside0.mk q1
        rw [hm, Bool.true_and] at p1
        have p2 := Aside0.mk p1
        have hcat : ¬ 9223372036854775807 < o.size + (a0.extract pos (pos + width a0 pos)).size := by omega
        have hoz : (o ++ a0.extract pos (pos + width a0 pos)).size ≤ 1 + 3 * (pos + width a0 pos) := by rw [app_size]; omega
        clear q1 p1 hba n34 n92 n32 hq1 hm hbe hbz
        generalize width a0 pos = n at *
        go_wp2_with fail
        refine (cachepotref3_plain.calls 3 a0 (pos : Int) (n : Int) _ hpA.out).mono ?_
        rintro e w1 ⟨rfl, ⟨nd, rfl⟩⟩
        cases av
        all_goals (
          go_wp2
          go_roundw
          case rel => exact ⟨_, _, pos + n, f, rfl, rfl, by simp, pw_below_drewN hbw nd, q2, by first | exact p2 | (rw [decide_eq_true (show 0 < n by omega)]; exact p2), by omega, hoz, hwl⟩
          case measure => simp [intOf]; omega)
    · have q1 := hq.out
      have p1 := hpl.out
      rw [quoteFrom_endI _ _ _ hp, List.append_nil] at q1
      rw [plainFrom_endI _ _ _ hp, Bool.and_true] at p1
      clear hq hpl
      have hcc : ¬ 9223372036854775807 < o.size + 1 := by omega
      cases av
      · have q2 : Aside0 (o ++ (⟨#[34]⟩ : ByteArray) = r) := ⟨by
          rw [← hr.out, quoteB, ← p1, if_neg (by decide)]
          apply ba_extI
          rw [app_data, q1]
          rfl⟩
        clear q1 p1
        go_wp2
        go_ret
        exact ⟨ret_strF q2.out, hbw⟩
      · have q2 : Aside0 (a0 = r) := ⟨by
          rw [← hr.out, quoteB, ← p1, if_pos rfl]⟩
        clear q1 p1
        go_wp2
        go_ret
        exact ⟨ret_strF q2.out, hbw⟩
end Go.Proofs.YtfaelejeihmgcaaDoor.Wd
end

section
namespace Go.Proofs.YtfaelejeihmgcaaDoor.Wd
open Go.RowKit Go.Proofs.YtfaelejeihmgcaaDoorW.PrintWords Go.Proofs.YtfaelejeihmgcaaDoorW.PrintLast Go.Proofs.YtfaelejeihmgcaaDoorW.PrintMore
attribute [local go_sem] max2_int min2_int max_two min_two max_three min_three max_four min_four   -- for this text's walks alone
set_option linter.unusedVariables false
set_option linter.unusedSimpArgs false
def cachepotref3_Join.l0 : Nat → List ByteArray → ByteArray → Int → Option (ByteArray)
  | 0, _, _, _ => none
  | k + 1, x0, x3, x4 => if x4 < (x0.length : Int) then (if x4 > 0 then (if x3.size + 1 ≤ 9223372036854775807 then (if 0 ≤ x4 then ((cachepotref3_Quote.f (rdOf ByteArray.empty x0 x4)).bind fun t177 => (if (x3 ++ (⟨#[32]⟩ : ByteArray)).size + t177.size ≤ 9223372036854775807 then (cachepotref3_Join.l0 k x0 ((x3 ++ (⟨#[32]⟩ : ByteArray)) ++ t177) (wrap64 (x4 + 1))) else (none))) else (none)) else (none)) else (if 0 ≤ x4 then ((cachepotref3_Quote.f (rdOf ByteArray.empty x0 x4)).bind fun t179 => (if x3.size + t179.size ≤ 9223372036854775807 then (cachepotref3_Join.l0 k x0 (x3 ++ t179) (wrap64 (x4 + 1))) else (none))) else (none))) else (some x3)
def cachepotref3_Join.f (k : Nat) (l0 : List ByteArray) : Option (ByteArray) := cachepotref3_Join.l0 k l0 (⟨#[]⟩ : ByteArray) 0
set_option maxHeartbeats 8000000 in
set_option maxRecDepth 100000 in
theorem cachepotref3_Join.calls (k : Nat) (A0 : Option Addr) (c0 : Nat) (l0 : List ByteArray) (r : ByteArray) (w : World) (hr0 : Kd.C Kd.string w A0 l0.length l0) (hc0 : l0.length ≤ c0) (h : cachepotref3_Join.f k l0 = some r) :
    Calls Tryd.prog 23 #[.slice A0 l0.length c0] w fun e w' => e = .returned (.string r) ∧ Below w.heap.size w w' := by
  have HR0 := Aside0.mk hr0
  have HC0 := Aside0.mk hc0
  clear hr0 hc0
  have HB := Aside0.mk (Below.refl w.heap.size w)
  have H : (cachepotref3_Join.l0 k l0 (⟨#[]⟩ : ByteArray) 0) = some r := h
  clear h
  have H' := Aside0.mk H
  clear H
  go_enter Tryd.func23, Tryd.ntmps23
  go_wp2
  go_loopg [3, 4] k (fun kq v3 v4 w' => ∃ (x3_1 : ByteArray) (x4_1 : Int), v3 = .string x3_1 ∧ v4 = .int .i64 x4_1 ∧ Aside0 (cachepotref3_Join.l0 kq l0 x3_1 x4_1 = some r) ∧ Aside0 (kq ≤ k) ∧ Aside0 (Below w.heap.size w w'))
  case atStart => exact ⟨((⟨#[]⟩ : ByteArray)), (0), (by first | rfl | (simp; done) | (simp [*]; done)), (by first | rfl | (simp; done) | (simp [*]; done)), H', ⟨Nat.le_refl _⟩, ⟨by repeat (first | (with_reducible first | exact HB.out | apply below_alloc | apply pw_below_drewN | apply below_drew1) | exact HB.out)⟩⟩
  case round =>
    clear H'
    obtain ⟨x3_1, x4_1, rfl, rfl, HA, HK1, HB⟩ := hrel
    cases gk with
    | zero => exact absurd HA.out (by simp [cachepotref3_Join.l0])
    | succ k1 =>
      have H := HA.out
      clear HA
      simp only [cachepotref3_Join.l0] at H
      by_cases c2 : x4_1 < (l0.length : Int)
      · rw [if_pos c2] at H
        have c2b0 : decide (x4_1 < (l0.length : Int)) = true := decide_eq_true c2
        clear c2
        by_cases c3 : x4_1 > 0
        · rw [if_pos c3] at H
          have c3b0 : decide (0 < x4_1) = true := decide_eq_true c3
          clear c3
          by_cases c4 : x3_1.size + 1 ≤ 9223372036854775807
          · rw [if_pos c4] at H
            have c4b0 := eq_true c4
            have c4b1 : decide (x3_1.size + 1 ≤ 9223372036854775807) = true := decide_eq_true c4
            try have c4b2 : (9223372036854775807 < x3_1.size + 1) = False := eq_false (Nat.not_lt.2 c4)
            by_cases c5 : 0 ≤ x4_1
            · rw [if_pos c5] at H
              have c5b0 : decide (0 ≤ x4_1) = true := decide_eq_true c5
              clear c5
              replace H := Option.bind_eq_some_iff.mp H
              obtain ⟨t177, A60, H⟩ := H
              replace H : (if (x3_1 ++ (⟨#[32]⟩ : ByteArray)).size + t177.size ≤ 9223372036854775807 then (cachepotref3_Join.l0 k1 l0 ((x3_1 ++ (⟨#[32]⟩ : ByteArray)) ++ t177) (wrap64 (x4_1 + 1))) else (none)) = some r := H
              have A6 := Aside0.mk A60
              clear A60
              by_cases c7 : (x3_1 ++ (⟨#[32]⟩ : ByteArray)).size + t177.size ≤ 9223372036854775807
              · rw [if_pos c7] at H
                have c7b0 := eq_true c7
                have c7b1 : decide ((x3_1 ++ (⟨#[32]⟩ : ByteArray)).size + t177.size ≤ 9223372036854775807) = true := decide_eq_true c7
                try have c7b2 : (9223372036854775807 < (x3_1 ++ (⟨#[32]⟩ : ByteArray)).size + t177.size) = False := eq_false (Nat.not_lt.2 c7)
                try have c7b9 : (9223372036854775807 < x3_1.size + 1 + t177.size) = False := by (have h_ := c7b2; rw [ByteArray.size_append] at h_; exact h_)
                have H' := Aside0.mk H
                clear H
                have p176 : 0 ≤ (x4_1 : Int) := of_decide_eq_true (by first | (with_reducible assumption) | assumption)
                have q176 : x4_1 < (l0.length : Int) := of_decide_eq_true (by first | (with_reducible assumption) | assumption)
                obtain ⟨ad176, e176, hx176_0⟩ := Kd.at_string HR0.out x4_1 p176 q176
                cases e176
                replace hx176_0 := (HB.out.cell (World.block_lt_of_cell? w _ hx176_0)).trans hx176_0
                replace p176 := eq_true p176
                replace q176 := eq_true q176
                go_wp2_with (first | ((with_reducible refine gate_callee (f := 28) rfl ?_); refine goesL_ (some 20) rfl rfl Tryd.func28 (by kernel_rfl) rfl #[.string (rdOf ByteArray.empty l0 x4_1)] rfl (by (try simp only [List.map_toArray, List.map_cons, List.map_nil]); first | done | rfl | (simp only [List.length_drop, List.length_take]; rfl)) ?_; (with_reducible refine (cachepotref3_Quote.calls (rdOf ByteArray.empty l0 x4_1) t177 _ A6.out).mono ?_); rintro e w8 ⟨rfl, hb⟩; refine ⟨_, rfl, ?_⟩; have n0_ := Aside0.mk (below_step (by repeat (first | (with_reducible first | exact HB.out | apply below_alloc | apply pw_below_drewN | apply below_drew1) | exact HB.out)) hb); clear HB; have HB := n0_; clear n0_; (try clear hb); (try clear hb2); (try clear hk); (try clear hi)))
                go_roundg k1
                case measure => have := HK1.out; omega
                case rel => exact ⟨((x3_1 ++ (⟨#[32]⟩ : ByteArray)) ++ t177), (wrap64 (x4_1 + 1)), (by first | rfl | (simp; done) | (simp [*]; done)), (by first | rfl | (simp; done) | (simp [*]; done)), H', ⟨by have := HK1.out; omega⟩, ⟨by repeat (first | (with_reducible first | exact HB.out | apply below_alloc | apply pw_below_drewN | apply below_drew1) | exact HB.out)⟩⟩
              · rw [if_neg c7] at H
                exact absurd H (by simp)
            · rw [if_neg c5] at H
              exact absurd H (by simp)
          · rw [if_neg c4] at H
            exact absurd H (by simp)
        · rw [if_neg c3] at H
          have c3b0 : decide (0 < x4_1) = false := decide_eq_false c3
          clear c3
          by_cases c9 : 0 ≤ x4_1
          · rw [if_pos c9] at H
            have c9b0 : decide (0 ≤ x4_1) = true := decide_eq_true c9
            clear c9
            replace H := Option.bind_eq_some_iff.mp H
            obtain ⟨t179, A100, H⟩ := H
            replace H : (if x3_1.size + t179.size ≤ 9223372036854775807 then (cachepotref3_Join.l0 k1 l0 (x3_1 ++ t179) (wrap64 (x4_1 + 1))) else (none)) = some r := H
            have A10 := Aside0.mk A100
            clear A100
            by_cases c11 : x3_1.size + t179.size ≤ 9223372036854775807
            · rw [if_pos c11] at H
              have c11b0 := eq_true c11
              have c11b1 : decide (x3_1.size + t179.size ≤ 9223372036854775807) = true := decide_eq_true c11
              try have c11b2 : (9223372036854775807 < x3_1.size + t179.size) = False := eq_false (Nat.not_lt.2 c11)
              have H' := Aside0.mk H
              clear H
              have p178 : 0 ≤ (x4_1 : Int) := of_decide_eq_true (by first | (with_reducible assumption) | assumption)
              have q178 : x4_1 < (l0.length : Int) := of_decide_eq_true (by first | (with_reducible assumption) | assumption)
              obtain ⟨ad178, e178, hx178_0⟩ := Kd.at_string HR0.out x4_1 p178 q178
              cases e178
              replace hx178_0 := (HB.out.cell (World.block_lt_of_cell? w _ hx178_0)).trans hx178_0
              replace p178 := eq_true p178
              replace q178 := eq_true q178
              go_wp2_with (first | ((with_reducible refine gate_callee (f := 28) rfl ?_); refine goesL_ (some 20) rfl rfl Tryd.func28 (by kernel_rfl) rfl #[.string (rdOf ByteArray.empty l0 x4_1)] rfl (by (try simp only [List.map_toArray, List.map_cons, List.map_nil]); first | done | rfl | (simp only [List.length_drop, List.length_take]; rfl)) ?_; (with_reducible refine (cachepotref3_Quote.calls (rdOf ByteArray.empty l0 x4_1) t179 _ A10.out).mono ?_); rintro e w12 ⟨rfl, hb⟩; refine ⟨_, rfl, ?_⟩; have n0_ := Aside0.mk (below_step (by repeat (first | (with_reducible first | exact HB.out | apply below_alloc | apply pw_below_drewN | apply below_drew1) | exact HB.out)) hb); clear HB; have HB := n0_; clear n0_; (try clear hb); (try clear hb2); (try clear hk); (try clear hi)))
              go_roundg k1
              case measure => have := HK1.out; omega
              case rel => exact ⟨(x3_1 ++ t179), (wrap64 (x4_1 + 1)), (by first | rfl | (simp; done) | (simp [*]; done)), (by first | rfl | (simp; done) | (simp [*]; done)), H', ⟨by have := HK1.out; omega⟩, ⟨by repeat (first | (with_reducible first | exact HB.out | apply below_alloc | apply pw_below_drewN | apply below_drew1) | exact HB.out)⟩⟩
            · rw [if_neg c11] at H
              exact absurd H (by simp)
          · rw [if_neg c9] at H
            exact absurd H (by simp)
      · rw [if_neg c2] at H
        have c2b0 : decide (x4_1 < (l0.length : Int)) = false := decide_eq_false c2
        clear c2
        obtain rfl := Option.some.inj H
        go_wp2
        go_ret
        exact ⟨by first | rfl | (simp [errW_none, errW_some] <;> rfl) | (simp [*, errW_none, errW_some] <;> rfl), by repeat (first | (with_reducible first | exact HB.out | apply below_alloc | apply pw_below_drewN | apply below_drew1) | exact HB.out)⟩
def cachepotbook_Short.f (a0 : ByteArray) (a1 : Int) : Option (ByteArray) := if 0 ≤ (mn (a0.size : Int) a1) then (if (mn (a0.size : Int) a1) ≤ (a0.size : Int) then (some (a0.extract 0 ((mn (a0.size : Int) a1) : Int).toNat)) else (none)) else (none)
def cachepotbook_Texts.l0 : Nat → List ByteArray → Int → Int → List ByteArray → Int → Option (List ByteArray)
  | 0, _, _, _, _, _ => none
  | k + 1, x0, x1, x2, x7, x8 => if x8 < (x0.length : Int) then (if x8 < x1 then (if 0 ≤ x8 then ((cachepotbook_Short.f (rdOf ByteArray.empty x0 x8) x2).bind fun t181 => (if x7.length < 8796093022208 then (cachepotbook_Texts.l0 k x0 x1 x2 (x7 ++ [t181]) (wrap64 (x8 + 1))) else (none))) else (none)) else (some x7)) else (some x7)
def cachepotbook_Texts.f (k : Nat) (l0 : List ByteArray) (a1 : Int) (a2 : Int) : Option (List ByteArray) := cachepotbook_Texts.l0 k l0 a1 a2 ([] : List ByteArray) 0
def cachepotbook_Pick.f (a0 : Int) (a1 : Int) : Option (Int) := if a1 = 0 then (none) else (if (Int.tmod a0 a1) < 0 then (some (wrap64 ((Int.tmod a0 a1) + a1))) else (some (Int.tmod a0 a1)))
end Go.Proofs.YtfaelejeihmgcaaDoor.Wd
end

section
namespace Go.Proofs.YtfaelejeihmgcaaDoor.Wd
open Go.RowKit Go.Proofs.YtfaelejeihmgcaaDoorW.PrintWords Go.Proofs.YtfaelejeihmgcaaDoorW.PrintLast
def joinB (l : List ByteArray) (sep : ByteArray) : List UInt8 := Lib.join (l.map (·.data.toList)) sep.data.toList
def strings_Join.f (l0 : List ByteArray) (a1 : ByteArray) : Option ByteArray :=
  if l0.length ≤ 1099511627776 ∧ (joinB l0 a1).length ≤ 1099511627776 then some ⟨(joinB l0 a1).toArray⟩ else none
theorem add_zero' (ad : Addr) : ad.add 0 = ad := by simp [Addr.add]
theorem strings_Join.calls (A0 : Option Addr) (c0 : Nat) (l0 : List ByteArray) (a1 : ByteArray) (r : ByteArray) (w : World) (hr0 : Kd.C Kd.string w A0 l0.length l0) (hc0 : l0.length ≤ c0) (h : strings_Join.f l0 a1 = some r) :
    Calls Tryd.prog 62 #[.slice A0 l0.length c0, .string a1] w fun e w' => e = .returned (.string r) ∧ Below w.heap.size w w' := by
  unfold strings_Join.f at h
  split at h
  · rename_i hb
    obtain rfl := Option.some.inj h
    have hr := Kd.reads_of_C (d := ByteArray.empty) hr0
    cases l0 with
    | nil =>
      refine (Tryd.strings_Join_none A0 c0 a1 w).mono ?_
      rintro e w' ⟨rfl, rfl⟩
      exact ⟨rfl, Below.refl _ _⟩
    | cons x l =>
      obtain ⟨ad, rfl, hc⟩ := hr.2.2 (by simp)
      obtain ⟨bk, o, rfl⟩ : ∃ bk o, ad = ⟨bk, o, none⟩ := by
        have h0 := hc 0 (by simp)
        rw [add_zero'] at h0
        obtain ⟨bk, o, p⟩ := ad
        cases p with
        | none => exact ⟨bk, o, rfl⟩
        | some p =>
          simp [World.cell?] at h0
          split at h0 <;> cases h0
      have hcells : ∀ (j : Nat) y, (x :: l)[j]? = some y → w.cell? ⟨bk, o + j, none⟩ = some (.string y) := by
        intro j y hj
        have hlt : j < (x :: l).length := by
          rcases Nat.lt_or_ge j (x :: l).length with h | h
          · exact h
          · rw [List.getElem?_eq_none h] at hj; cases hj
        have h1 := hc j hlt
        have e : (⟨bk, o, none⟩ : Addr).add j = ⟨bk, o + j, none⟩ := by
          unfold Addr.add
          split
          · rename_i hj0; simp_all
          · rfl
        rw [e] at h1
        rw [h1, List.getD_eq_getElem?_getD, hj]
        rfl
      refine (Tryd.strings_Join bk o c0 (x :: l) a1 w hcells ?_ (by omega) hc0 (by have := hb.2; unfold joinB at this; omega)).mono ?_
      · have := hcells 0 x rfl
        exact World.block_lt_of_cell? w _ this
      · rintro e w' ⟨rfl, h2⟩
        exact ⟨rfl, h2⟩
  · cases h
end Go.Proofs.YtfaelejeihmgcaaDoor.Wd
end

section
namespace Go.Proofs.YtfaelejeihmgcaaDoor.Wd
open Go.RowKit Go.Proofs.YtfaelejeihmgcaaDoorW.PrintWords Go.Proofs.YtfaelejeihmgcaaDoorW.PrintLast Go.Proofs.YtfaelejeihmgcaaDoorW.PrintMore
attribute [local go_sem] max2_int min2_int max_two min_two max_three min_three max_four min_four   -- for this text's walks alone
set_option linter.unusedVariables false
set_option linter.unusedSimpArgs false
def cachepotlaw25_WordLines.l0 : Nat → ByteArray → ByteArray → ByteArray → Int → Option (Bool)
  | 0, _, _, _, _ => none
  | k + 1, x0, x1, x5, x6 => if x6 < (x5.size : Int) then (if 0 ≤ x6 then (if (bt x5 x6) = 10 then (some false) else (cachepotlaw25_WordLines.l0 k x0 x1 x5 (wrap64 (x6 + 1)))) else (none)) else ((cachepotbook_Short.f x0 40).bind fun t209 => (if t209.size + 1 ≤ 9223372036854775807 then ((cachepotbook_Short.f x1 40).bind fun t210 => (if (t209 ++ (⟨#[10]⟩ : ByteArray)).size + t210.size ≤ 9223372036854775807 then ((word_Split.f k ((t209 ++ (⟨#[10]⟩ : ByteArray)) ++ t210)).bind fun bt211 => ((cachepotlaw25_alive.f k).bind fun t215 => (if t215 = true then (some (bt211.2 == 2)) else (some false)))) else (none))) else (none)))
def cachepotlaw25_WordLines.f (k : Nat) (a0 : ByteArray) (a1 : ByteArray) : Option (Bool) := (word_Quote.f a0).bind fun t208 => (cachepotlaw25_WordLines.l0 k a0 a1 t208 0)
def word_Join.l0 : Nat → List ByteArray → List ByteArray → Int → Int → Option (ByteArray)
  | 0, _, _, _, _ => none
  | k + 1, x3, x6, x7, x8 => if x8 < x7 then (if 0 ≤ x8 then (if x8 < (x6.length : Int) then ((word_Quote.f (rdOf ByteArray.empty x6 x8)).bind fun t217 => (if x3.length < 8796093022208 then (word_Join.l0 k (x3 ++ [t217]) x6 x7 (wrap64 (x8 + 1))) else (none))) else (none)) else (none)) else ((strings_Join.f x3 (⟨#[32]⟩ : ByteArray)).bind fun t221 => (some t221))
def word_Join.f (k : Nat) (l0 : List ByteArray) : Option (ByteArray) := word_Join.l0 k ([] : List ByteArray) l0 (l0.length : Int) 0
set_option maxHeartbeats 8000000 in
set_option maxRecDepth 100000 in
theorem word_Join.calls (k : Nat) (A0 : Option Addr) (c0 : Nat) (l0 : List ByteArray) (r : ByteArray) (w : World) (hr0 : Kd.C Kd.string w A0 l0.length l0) (hc0 : l0.length ≤ c0) (h : word_Join.f k l0 = some r) (hT : Tabs w) :
    Calls Tryd.prog 29 #[.slice A0 l0.length c0] w fun e w' => e = .returned (.string r) ∧ Below w.heap.size w w' := by
  have HR0 := Aside0.mk hr0
  have HC0 := Aside0.mk hc0
  clear hr0 hc0
  have HB := Aside0.mk (Below.refl w.heap.size w)
  have H : (word_Join.l0 k ([] : List ByteArray) l0 (l0.length : Int) 0) = some r := h
  clear h
  have H' := Aside0.mk H
  clear H
  go_enter Tryd.func29, Tryd.ntmps29
  go_wp2
  go_loopg [3, 8] k (fun kq v3 v8 w' => ∃ (x3_1 : List ByteArray) (x8_1 : Int), v8 = .int .i64 x8_1 ∧ Aside0 (word_Join.l0 kq x3_1 l0 (l0.length : Int) x8_1 = some r) ∧ Aside0 (kq ≤ k) ∧ Aside0 (Kd.R Kd.string 9 w' w.heap.size (fun _ => True) v3 x3_1) ∧ Aside0 (Below w.heap.size w w'))
  case atStart => exact ⟨(([] : List ByteArray)), (0), (by first | rfl | (simp; done) | (simp [*]; done)), H', ⟨Nat.le_refl _⟩, ⟨by first | exact Kd.R_nil _ _ _ _ _ | exact Kd.N_nil _ _ _ _ _ | exact Kd.V_nil _ _ _ _ _ | exact Kd.Q_nil _ _ _ _ _ | exact Kd.S_nil _ _ _ _ _⟩, ⟨by repeat (first | (with_reducible first | exact HB.out | apply below_alloc | apply pw_below_drewN | apply below_drew1) | exact HB.out)⟩⟩
  case round =>
    clear H'
    obtain ⟨x3_1, x8_1, rfl, HA, HK1, HO_3, HB⟩ := hrel
    cases gk with
    | zero => exact absurd HA.out (by simp [word_Join.l0])
    | succ k1 =>
      have H := HA.out
      clear HA
      simp only [word_Join.l0] at H
      by_cases c2 : x8_1 < (l0.length : Int)
      · rw [if_pos c2] at H
        have c2b0 : decide (x8_1 < (l0.length : Int)) = true := decide_eq_true c2
        clear c2
        by_cases c3 : 0 ≤ x8_1
        · rw [if_pos c3] at H
          have c3b0 : decide (0 ≤ x8_1) = true := decide_eq_true c3
          clear c3
          by_cases c4 : x8_1 < (l0.length : Int)
          · rw [if_pos c4] at H
            have c4b0 : decide (x8_1 < (l0.length : Int)) = true := decide_eq_true c4
            clear c4
            replace H := Option.bind_eq_some_iff.mp H
            obtain ⟨t217, A50, H⟩ := H
            replace H : (if x3_1.length < 8796093022208 then (word_Join.l0 k1 (x3_1 ++ [t217]) l0 (l0.length : Int) (wrap64 (x8_1 + 1))) else (none)) = some r := H
            have A5 := Aside0.mk A50
            clear A50
            by_cases c6 : x3_1.length < 8796093022208
            · rw [if_pos c6] at H
              have LMc6 := Aside0.mk c6
              clear c6
              obtain ⟨y218, hy218⟩ : ∃ y_ : List ByteArray, y_ = (x3_1 ++ [t217]) := ⟨_, rfl⟩
              replace H : (word_Join.l0 k1 y218 l0 (l0.length : Int) (wrap64 (x8_1 + 1))) = some r := by first | (rw [hy218]; with_reducible exact H) | (have H2_ := (Option.bind_some _ _).symm.trans H; rw [hy218]; with_reducible exact H2_) | (have H2_ := (Option.bind_some _ _).symm.trans H; with_reducible exact H2_) | with_reducible exact H | (rw [hy218]; exact H) | exact H
              have Ny218 := Aside0.mk hy218
              clear hy218
              have H' := Aside0.mk H
              clear H
              have p216 : 0 ≤ (x8_1 : Int) := of_decide_eq_true (by first | (with_reducible assumption) | assumption)
              have q216 : x8_1 < (l0.length : Int) := of_decide_eq_true (by first | (with_reducible assumption) | assumption)
              obtain ⟨ad216, e216, hx216_0⟩ := Kd.at_string HR0.out x8_1 p216 q216
              cases e216
              replace hx216_0 := (HB.out.cell (World.block_lt_of_cell? w _ hx216_0)).trans hx216_0
              replace p216 := eq_true p216
              replace q216 := eq_true q216
              go_wp2_with (first | ((with_reducible refine gate_callee (f := 26) rfl ?_); refine goesL_ (some 14) rfl rfl Tryd.func26 (by kernel_rfl) rfl #[.string (rdOf ByteArray.empty l0 x8_1)] rfl (by (try simp only [List.map_toArray, List.map_cons, List.map_nil]); first | done | rfl | (simp only [List.length_drop, List.length_take]; rfl)) ?_; (with_reducible refine (word_Quote.calls (rdOf ByteArray.empty l0 x8_1) t217 _ A5.out (by first | exact hT | (refine Tabs.below hT ?_; (repeat (first | (with_reducible first | exact HB.out | exact Below.refl _ _ | apply below_alloc | apply pw_below_drewN | apply below_drew1) | exact HB.out))))).mono ?_); rintro e w7 ⟨rfl, hb⟩; refine ⟨_, rfl, ?_⟩; have n0_ := Aside0.mk (Kd.R_below (by (with_reducible repeat (first | apply Kd.R_alloc | apply Kd.R_drewN | apply Kd.R_drew)); exact HO_3.out) hb); have n1_ := Aside0.mk (below_step (by repeat (first | (with_reducible first | exact HB.out | apply below_alloc | apply pw_below_drewN | apply below_drew1) | exact HB.out)) hb); clear HO_3; clear HB; have HO_3 := n0_; have HB := n1_; clear n0_ n1_; (try clear hb); (try clear hb2); (try clear hk); (try clear hi)) | ((with_reducible refine gate_builtin (b := .append) (xs := #[.tmp 12, .tmp 15]) rfl ?_); at_builtin; refine Kd.R_append Kd.string (w0 := w) w.heap.size rfl (.tmp 12) (.tmp 15) 22 9 (.string ⟨#[]⟩) 16 rfl Tryd.underlying22 info9 rfl (by decide) (by omega) u3 x3_1 t217 [.string t217] (fun _ => True) (fun _ => False) rfl rfl ?aP (fun _ hk => hk.elim) ?aF ?aO ?aB ?aS ?aL ?_; (case aP => exact rfl); (case aB => exact (by repeat (first | (with_reducible first | exact HB.out | apply below_alloc | apply pw_below_drewN | apply below_drew1) | exact HB.out))); (case aF => exact (fun _ _ => trivial)); (case aO => exact (by (with_reducible repeat (first | apply Kd.R_alloc | apply Kd.R_drewN | apply Kd.R_drew)); exact HO_3.out)); (case aS => exact (below_size (by repeat (first | (with_reducible first | exact HB.out | apply below_alloc | apply pw_below_drewN | apply below_drew1) | exact HB.out)))); (case aL => have := LMc6.out; omega); intro v219 w8 ho hb hg hat; rw [← Ny218.out] at ho; have n0_ := Aside0.mk (hb); have n1_ := Aside0.mk (ho); clear HB; clear HO_3; have HB := n0_; have HO220 := n1_; clear n0_ n1_; clear ho hb hg hat))
              go_roundg k1
              case measure => have := HK1.out; omega
              case rel => exact ⟨(y218), (wrap64 (x8_1 + 1)), (by first | rfl | (simp; done) | (simp [*]; done)), H', ⟨by have := HK1.out; omega⟩, ⟨by (with_reducible repeat (first | apply Kd.R_alloc | apply Kd.R_drewN | apply Kd.R_drew)); exact HO220.out⟩, ⟨by repeat (first | (with_reducible first | exact HB.out | apply below_alloc | apply pw_below_drewN | apply below_drew1) | exact HB.out)⟩⟩
            · rw [if_neg c6] at H
              exact absurd H (by simp)
          · rw [if_neg c4] at H
            exact absurd H (by simp)
        · rw [if_neg c3] at H
          exact absurd H (by simp)
      · rw [if_neg c2] at H
        have c2b0 : decide (x8_1 < (l0.length : Int)) = false := decide_eq_false c2
        clear c2
        replace H := Option.bind_eq_some_iff.mp H
        obtain ⟨t221, A90, H⟩ := H
        replace H : (some t221) = some r := H
        have A9 := Aside0.mk A90
        clear A90
        obtain rfl := Option.some.inj H
        obtain ⟨Ao10, co10, eo10⟩ := Kd.R_slice HO_3.out
        subst eo10
        go_wp2_with (first | ((with_reducible refine gate_callee (f := 62) rfl ?_); refine goesL_ (some 19) rfl rfl Tryd.func62 (by kernel_rfl) rfl #[.slice Ao10 x3_1.length co10, .string (⟨#[32]⟩ : ByteArray)] rfl (by (try simp only [List.map_toArray, List.map_cons, List.map_nil]); first | done | rfl | (simp only [List.length_drop, List.length_take]; rfl)) ?_; (with_reducible refine (strings_Join.calls _ _ x3_1 (⟨#[32]⟩ : ByteArray) t221 _ ?side1 ?side2 A9.out).mono ?_); (case side1 => repeat (first | exact (Kd.R_reads' HO_3.out).2.2 | (with_reducible refine Kd.C_alloc ?_ _) | (with_reducible refine Kd.C_drewN ?_ _) | (with_reducible refine Kd.C_drew ?_))); (case side2 => exact (Kd.R_reads' HO_3.out).2.1); rintro e w11 ⟨rfl, hb⟩; refine ⟨_, rfl, ?_⟩; have n0_ := Aside0.mk (Kd.R_below (by (with_reducible repeat (first | apply Kd.R_alloc | apply Kd.R_drewN | apply Kd.R_drew)); exact HO_3.out) hb); have n1_ := Aside0.mk (below_step (by repeat (first | (with_reducible first | exact HB.out | apply below_alloc | apply pw_below_drewN | apply below_drew1) | exact HB.out)) hb); clear HO_3; clear HB; have HO_3 := n0_; have HB := n1_; clear n0_ n1_; (try clear hb); (try clear hb2); (try clear hk); (try clear hi)))
        go_ret
        exact ⟨by first | rfl | (simp [errW_none, errW_some] <;> rfl) | (simp [*, errW_none, errW_some] <;> rfl), by repeat (first | (with_reducible first | exact HB.out | apply below_alloc | apply pw_below_drewN | apply below_drew1) | exact HB.out)⟩
def cachepotlaw25_WordQuotes.f (k : Nat) (a0 : ByteArray) (l1 : List ByteArray) : Option (Bool) := (cachepotbook_Texts.f k l1 20 60).bind fun t222 => ((cachepotlaw25_alive.f k).bind fun t225 => (if t225 = true then ((word_Quote.f a0).bind fun t226 => ((cachepotref3_Quote.f a0).bind fun t227 => (if t226.toList = t227.toList then ((word_Join.f k t222).bind fun t228 => ((cachepotref3_Join.f k t222).bind fun t229 => (some (t228.toList == t229.toList)))) else (some false)))) else (some false)))
def cachepotlaw25_WordBack.f (k : Nat) (l0 : List ByteArray) : Option (Bool) := (cachepotbook_Texts.f k l0 20 60).bind fun t230 => ((word_Join.f k t230).bind fun t233 => ((word_Split.f k t233).bind fun bt234 => ((cachepotlaw25_alive.f k).bind fun t238 => (if t238 = true then (if bt234.2 = 0 then ((cachepotbook_SameTexts.f k bt234.1 t230).bind fun t239 => (some t239)) else (some false)) else (some false)))))
end Go.Proofs.YtfaelejeihmgcaaDoor.Wd
end

section
namespace Go.Proofs.YtfaelejeihmgcaaDoor.Wd
open Go.RowKit Go.Proofs.YtfaelejeihmgcaaDoorW.PrintWords Go.Proofs.YtfaelejeihmgcaaDoorW.PrintLast Go.Proofs.YtfaelejeihmgcaaDoorW.PrintMore
/-- the first bytes of a text, at most m of them -/
def cut (s : ByteArray) (m : Nat) : ByteArray := s.extract 0 (min s.size m)
theorem cut_size (s : ByteArray) (m : Nat) : (cut s m).size = min s.size m := by unfold cut; simp
theorem short_f (s : ByteArray) (m : Nat) : cachepotbook_Short.f s (m : Int) = some (cut s m) := by
  have e : mn (s.size : Int) (m : Int) = ((min s.size m : Nat) : Int) := by unfold mn; split <;> omega
  have e2 : ((min s.size m : Nat) : Int).toNat = min s.size m := by omega
  unfold cachepotbook_Short.f cut
  rw [e, if_pos (by omega), if_pos (by omega), e2]
/-- Texts: at most n texts, each at most m bytes -/
def textsL (l : List ByteArray) (n m : Nat) : List ByteArray := (l.take n).map fun s => cut s m
theorem texts_l0 (l : List ByteArray) (n m : Nat) (hn : n ≤ 1000000) : ∀ (d i k : Nat) (acc : List ByteArray), n - i ≤ d → i ≤ n → d < k → acc.length ≤ i →
    cachepotbook_Texts.l0 k l (n : Int) (m : Int) acc (i : Int) = some (acc ++ ((l.take n).drop i).map fun s => cut s m) := by
  intro d
  induction d with
  | zero =>
    intro i k acc hd hi hk ha
    obtain ⟨k, rfl⟩ : ∃ j, k = j + 1 := ⟨k - 1, by omega⟩
    have e : (l.take n).drop i = [] := List.drop_eq_nil_of_le (by rw [List.length_take]; omega)
    rw [cachepotbook_Texts.l0, e]
    split
    · rw [if_neg (by omega)]; simp
    · simp
  | succ d ih =>
    intro i k acc hd hi hk ha
    obtain ⟨k, rfl⟩ : ∃ j, k = j + 1 := ⟨k - 1, by omega⟩
    rw [cachepotbook_Texts.l0]
    by_cases h1 : i < l.length
    · rw [if_pos (by omega)]
      by_cases h2 : i < n
      · have hlt : i < (l.take n).length := by rw [List.length_take]; omega
        have e : rdOf ByteArray.empty l (i : Int) = l[i] := by
          unfold rdOf
          rw [show ((i : Nat) : Int).toNat = i by omega, List.getD_eq_getElem?_getD, List.getElem?_eq_getElem h1]
          rfl
        rw [if_pos (by omega), if_pos (by omega), e, short_f, Option.bind_some, if_pos (by omega), wn1 i (by omega), ih (i + 1) k _ (by omega) (by omega) (by omega) (by simp; omega), List.drop_eq_getElem_cons hlt, List.getElem_take, List.map_cons]
        simp
      · have e : (l.take n).drop i = [] := List.drop_eq_nil_of_le (by rw [List.length_take]; omega)
        rw [if_neg (by omega), e]; simp
    · have e : (l.take n).drop i = [] := List.drop_eq_nil_of_le (by rw [List.length_take]; omega)
      rw [if_neg (by omega), e]; simp
theorem texts_f (l : List ByteArray) (n m k : Nat) (hn : n ≤ 1000000) (hk : n < k) : cachepotbook_Texts.f k l (n : Int) (m : Int) = some (textsL l n m) := by
  unfold cachepotbook_Texts.f textsL
  exact texts_l0 l n m hn n 0 k [] (by omega) (by omega) hk (by simp)
theorem textsL_length (l : List ByteArray) (n m : Nat) : (textsL l n m).length ≤ n := by unfold textsL; rw [List.length_map]; exact List.length_take_le _ _
theorem textsL_size (l : List ByteArray) (n m : Nat) : ∀ x ∈ textsL l n m, x.size ≤ m := by
  intro x hx
  unfold textsL at hx
  obtain ⟨y, _, rfl⟩ := List.mem_map.1 hx
  rw [cut_size]; omega
theorem bytesAt_len (s : ByteArray) (i n : Nat) : (bytesAt s i n).length ≤ n := List.length_take_le _ _
theorem quote1_len (s : ByteArray) (i : Nat) : (quote1 s i).length ≤ 3 * width s i := by
  have hw := width_pos s i
  have hb := bytesAt_len s i (width s i)
  unfold quote1
  split
  · omega
  · split
    · simp; omega
    · rw [hexQs_len]; omega
theorem quoteFrom_len (s : ByteArray) : ∀ f i, (quoteFrom s f i).length ≤ 3 * (s.size - i) := by
  intro f
  induction f with
  | zero => intro i; simp [quoteFrom]
  | succ f ih =>
    intro i
    rw [quoteFrom]
    by_cases h : i < s.size
    · have hw := width_pos s i
      have hwl := width_le s i h
      have h1 := quote1_len s i
      have h2 := ih (i + width s i)
      rw [if_pos h, List.length_append]
      omega
    · rw [if_neg h]; simp
theorem quoteB_len (s : ByteArray) : (quoteB s).length ≤ 3 * s.size + 2 := by
  unfold quoteB
  split
  · rw [← Lib.size_eq]; omega
  · have := quoteFrom_len s s.size 0
    simp; omega
def qB (s : ByteArray) : ByteArray := ⟨(quoteB s).toArray⟩
theorem qB_data (s : ByteArray) : (qB s).data.toList = quoteB s := rfl
theorem qB_size (s : ByteArray) : (qB s).size = (quoteB s).length := by rw [Lib.size_eq, qB_data]
def tailB (l : List ByteArray) : List UInt8 := Lib.joinTail [32] (l.map quoteB)
def joinL (l : List ByteArray) : List UInt8 := Lib.join (l.map quoteB) [32]
theorem tailB_nil : tailB [] = [] := rfl
theorem tailB_cons (x : ByteArray) (l : List ByteArray) : tailB (x :: l) = 32 :: (quoteB x ++ tailB l) := by simp [tailB, Lib.joinTail]
theorem joinL_nil : joinL [] = [] := rfl
theorem joinL_cons (x : ByteArray) (l : List ByteArray) : joinL (x :: l) = quoteB x ++ tailB l := by
  unfold joinL tailB
  rw [List.map_cons, Lib.join_cons]
theorem tailB_len (m : Nat) (l : List ByteArray) (h : ∀ x ∈ l, x.size ≤ m) : (tailB l).length ≤ (3 * m + 3) * l.length := by
  induction l with
  | nil => simp [tailB_nil]
  | cons x l ih =>
    have h1 := ih fun y hy => h y (List.mem_cons_of_mem _ hy)
    have h2 := quoteB_len x
    have h3 := h x (List.mem_cons_self ..)
    rw [tailB_cons, List.length_cons, List.length_append, List.length_cons, Nat.mul_succ]
    omega
theorem joinL_len (m : Nat) (l : List ByteArray) (h : ∀ x ∈ l, x.size ≤ m) : (joinL l).length ≤ (3 * m + 3) * l.length := by
  cases l with
  | nil => simp [joinL_nil]
  | cons x l =>
    have h1 := tailB_len m l fun y hy => h y (List.mem_cons_of_mem _ hy)
    have h2 := quoteB_len x
    have h3 := h x (List.mem_cons_self ..)
    rw [joinL_cons, List.length_append, List.length_cons, Nat.mul_succ]
    omega
theorem rQuote_f (s : ByteArray) (h : s.size ≤ 1099511627776) : cachepotref3_Quote.f s = some (qB s) := if_pos h
theorem wQuote_f (s : ByteArray) (h : s.size ≤ 1099511627776) : word_Quote.f s = some (qB s) := if_pos h
theorem rd_at (l : List ByteArray) (i : Nat) (h : i < l.length) : rdOf ByteArray.empty l (i : Int) = l[i] := by
  unfold rdOf
  rw [show ((i : Nat) : Int).toNat = i by omega, List.getD_eq_getElem?_getD, List.getElem?_eq_getElem h]
  rfl
theorem rjoin_l0 (l : List ByteArray) (hl : l.length ≤ 1048576) (hm : ∀ x ∈ l, x.size ≤ 1048576) : ∀ (d i k : Nat) (out : ByteArray), l.length - i ≤ d → 0 < i → i ≤ l.length → d < k → out.size ≤ 3145731 * i →
    cachepotref3_Join.l0 k l out (i : Int) = some ⟨(out.data.toList ++ tailB (l.drop i)).toArray⟩ := by
  have fin : ∀ (k i : Nat) (out : ByteArray), l.length ≤ i → cachepotref3_Join.l0 (k + 1) l out (i : Int) = some ⟨(out.data.toList ++ tailB (l.drop i)).toArray⟩ := by
    intro k i out h
    rw [cachepotref3_Join.l0, if_neg (by omega), List.drop_eq_nil_of_le h, tailB_nil, List.append_nil]
  intro d
  induction d with
  | zero =>
    intro i k out hd h0 hi hk ho
    obtain ⟨k, rfl⟩ : ∃ j, k = j + 1 := ⟨k - 1, by omega⟩
    exact fin k i out (by omega)
  | succ d ih =>
    intro i k out hd h0 hi hk ho
    obtain ⟨k, rfl⟩ : ∃ j, k = j + 1 := ⟨k - 1, by omega⟩
    by_cases h : i < l.length
    · have hx := hm _ (List.getElem_mem h)
      have hq := quoteB_len l[i]
      have hqz := qB_size l[i]
      have e1 : (⟨#[32]⟩ : ByteArray).size = 1 := rfl
      have hz1 : (out ++ (⟨#[32]⟩ : ByteArray)).size = out.size + 1 := by rw [app_size, e1]
      rw [cachepotref3_Join.l0, if_pos (by omega), if_pos (by omega), if_pos (by omega), if_pos (by omega), rd_at l i h, rQuote_f _ (by omega), Option.bind_some, if_pos (by omega), wn1 i (by omega),
        ih (i + 1) k _ (by omega) (by omega) (by omega) (by omega) (by rw [app_size]; omega), List.drop_eq_getElem_cons h, tailB_cons, app_data, app_data, qB_data]
      simp
    · exact fin k i out (by omega)
theorem rJoin_f (l : List ByteArray) (hl : l.length ≤ 1048576) (hm : ∀ x ∈ l, x.size ≤ 1048576) (k : Nat) (hk : l.length + 1 < k) : cachepotref3_Join.f k l = some ⟨(joinL l).toArray⟩ := by
  obtain ⟨k, rfl⟩ : ∃ j, k = j + 1 := ⟨k - 1, by omega⟩
  unfold cachepotref3_Join.f
  cases l with
  | nil => rfl
  | cons x l =>
    have hx := hm x (List.mem_cons_self ..)
    have hq := quoteB_len x
    have hqz := qB_size x
    have e0 : (⟨#[]⟩ : ByteArray).size = 0 := rfl
    have hlen : (x :: l).length = l.length + 1 := rfl
    have e1 : wrap64 ((0 : Int) + 1) = ((1 : Nat) : Int) := wn1 0 (by omega)
    have hr : rdOf ByteArray.empty (x :: l) 0 = x := rfl
    rw [cachepotref3_Join.l0, if_pos (by omega), if_neg (by decide), if_pos (by decide), hr, rQuote_f _ (by omega), Option.bind_some, if_pos (by omega), e1,
      rjoin_l0 (x :: l) hl hm (x :: l).length 1 k _ (by omega) (by omega) (by omega) (by omega) (by rw [app_size]; omega), joinL_cons, app_data, qB_data]
    rfl
theorem wjoin_l0 (l : List ByteArray) (hl : l.length ≤ 1048576) (hm : ∀ x ∈ l, x.size ≤ 1048576) (hJ : (joinL l).length ≤ 1099511627776) : ∀ (d i k : Nat), l.length - i ≤ d → i ≤ l.length → d < k →
    word_Join.l0 k ((l.take i).map qB) l (l.length : Int) (i : Int) = some ⟨(joinL l).toArray⟩ := by
  have hjb : joinB (l.map qB) (⟨#[32]⟩ : ByteArray) = joinL l := by
    unfold joinB joinL
    rw [List.map_map]
    rfl
  have fin : ∀ (k i : Nat), i = l.length → word_Join.l0 (k + 1) ((l.take i).map qB) l (l.length : Int) (i : Int) = some ⟨(joinL l).toArray⟩ := by
    intro k i h
    rw [word_Join.l0, if_neg (by omega), h, List.take_length, strings_Join.f, if_pos (by rw [hjb, List.length_map]; exact ⟨by omega, hJ⟩), Option.bind_some, hjb]
  intro d
  induction d with
  | zero =>
    intro i k hd hi hk
    obtain ⟨k, rfl⟩ : ∃ j, k = j + 1 := ⟨k - 1, by omega⟩
    exact fin k i (by omega)
  | succ d ih =>
    intro i k hd hi hk
    obtain ⟨k, rfl⟩ : ∃ j, k = j + 1 := ⟨k - 1, by omega⟩
    by_cases h : i < l.length
    · have hx := hm _ (List.getElem_mem h)
      have hlen : ((l.take i).map qB).length ≤ i := by rw [List.length_map]; exact List.length_take_le _ _
      have e : (l.take i).map qB ++ [qB l[i]] = (l.take (i + 1)).map qB := by
        rw [List.take_succ_eq_append_getElem h, List.map_append]
        rfl
      rw [word_Join.l0, if_pos (by omega), if_pos (by omega), if_pos (by omega), rd_at l i h, wQuote_f _ (by omega), Option.bind_some, if_pos (by omega), wn1 i (by omega), e]
      exact ih (i + 1) k (by omega) (by omega) (by omega)
    · exact fin k i (by omega)
theorem wJoin_f (l : List ByteArray) (hl : l.length ≤ 1048576) (hm : ∀ x ∈ l, x.size ≤ 1048576) (hJ : (joinL l).length ≤ 1099511627776) (k : Nat) (hk : l.length < k) : word_Join.f k l = some ⟨(joinL l).toArray⟩ := by
  unfold word_Join.f
  exact wjoin_l0 l hl hm hJ l.length 0 k (by omega) (by omega) hk
end Go.Proofs.YtfaelejeihmgcaaDoor.Wd
end

section
namespace Go.Proofs.YtfaelejeihmgcaaDoor.Wd
open Go.RowKit Go.Proofs.YtfaelejeihmgcaaDoorW.PrintWords Go.Proofs.YtfaelejeihmgcaaDoorW.PrintLast Go.Proofs.YtfaelejeihmgcaaDoorW.PrintMore
/-- what stands at place p of s is the list l, and then the list r -/
def Lies (s : ByteArray) (p : Nat) (l r : List UInt8) : Prop := s.data.toList.drop p = l ++ r
theorem Lies.next {s : ByteArray} {p : Nat} {a b r : List UInt8} (h : Lies s p (a ++ b) r) : Lies s (p + a.length) b r := by
  unfold Lies at h ⊢
  rw [← List.drop_drop, h, List.append_assoc, List.drop_left]
theorem Lies.last {s : ByteArray} {p : Nat} {l r : List UInt8} (h : Lies s p l r) (hp : p ≤ s.size) : p + l.length + r.length = s.size := by
  unfold Lies at h
  have := congrArg List.length h
  rw [List.length_drop, List.length_append, ← Lib.size_eq] at this
  omega
theorem Lies.move {s : ByteArray} {p : Nat} {a b r : List UInt8} : Lies s p (a ++ b) r ↔ Lies s p a (b ++ r) := by unfold Lies; rw [List.append_assoc]
theorem Lies.bytes {s : ByteArray} {p : Nat} {l r : List UInt8} (h : Lies s p l r) : bytesAt s p l.length = l := by
  unfold bytesAt
  unfold Lies at h
  rw [h, List.take_left]
end Go.Proofs.YtfaelejeihmgcaaDoor.Wd
end

section
namespace Go.Proofs.YtfaelejeihmgcaaDoor.Stp
open Go.RowKit Go.Proofs.YtfaelejeihmgcaaDoorW.PrintWords
theorem name_out (k : Int) (h : ¬ (0 ≤ k ∧ k ≤ 15)) : step_name.f k = some (⟨#[]⟩, ⟨#[]⟩) := by
  unfold step_name.f
  rw [if_neg (by omega), if_neg (by omega), if_neg (by omega), if_neg (by omega), if_neg (by omega), if_neg (by omega), if_neg (by omega), if_neg (by omega), if_neg (by omega), if_neg (by omega), if_neg (by omega), if_neg (by omega), if_neg (by omega), if_neg (by omega)]
theorem name_any (k : Int) : step_name.f k = some (nameT k) := by
  by_cases h : 0 ≤ k ∧ k ≤ 15
  · obtain ⟨n, rfl⟩ : ∃ n : Nat, k = n := ⟨k.toNat, by omega⟩
    exact name_f n (by omega)
  · unfold nameT
    rw [name_out k h]
    rfl
def getNum (o : OpV) (c : Int) : Int := if c = 115 then o.s else if c = 110 then o.n else if c = 112 then o.page else if c = 97 then o.at_ else o.x
def maskW : List Int → List ByteArray → Option (List ByteArray)
  | [], acc => some acc
  | v :: vs, acc => if fitsB 77 v = true then maskW vs (acc ++ [itoaB v]) else none
def printF : List UInt8 → OpV → List ByteArray → Option (List ByteArray)
  | [], _, acc => some acc
  | c :: cs, o, acc => if (c.toNat : Int) = 107 then printF cs o (acc ++ [o.key]) else if (c.toNat : Int) = 118 then printF cs o (acc ++ [o.val]) else if (c.toNat : Int) = 75 then printF cs o (acc ++ o.keys)
    else if (c.toNat : Int) = 77 then (maskW o.mask acc).bind (printF cs o)
    else if fitsB (c.toNat : Int) (getNum o (c.toNat : Int)) = true then printF cs o (acc ++ [itoaB (getNum o (c.toNat : Int))]) else none
def printW (o : OpV) : Option (List ByteArray) := if (nameT o.kind).1.toList = [] then none else printF (nameT o.kind).2.data.toList o [(nameT o.kind).1]
def lineOf (l : List ByteArray) : ByteArray := ⟨(Wd.joinL l).toArray⟩
def printR : Option (List ByteArray) → ByteArray × Int
  | some l => (lineOf l, 0)
  | none => (⟨#[]⟩, 2)
def printT (o : OpV) : ByteArray × Int := printR (printW o)
theorem fits_range (c v : Int) (h : fitsB c v = true) : -1000000 ≤ v ∧ v ≤ 1000000 := by
  unfold fitsB at h
  split at h <;> simp at h <;> omega
theorem itoa_ok (c v : Int) (h : fitsB c v = true) : strconv_Itoa.f v = some (itoaB v) := by
  have := fits_range c v h
  unfold strconv_Itoa.f
  rw [if_pos (by omega)]
/-- lists that both Join take -/
structure Joins (l : List ByteArray) : Prop where
  n : l.length ≤ 1048576
  s : ∀ x ∈ l, x.size ≤ 1048576
  j : (Wd.joinL l).length ≤ 1099511627776
theorem name_len (k : Int) : (nameT k).2.size ≤ 100 := by
  by_cases h : 0 ≤ k ∧ k ≤ 15
  · obtain ⟨n, rfl⟩ : ∃ n : Nat, k = n := ⟨k.toNat, by omega⟩
    exact name_size n (by omega)
  · unfold nameT
    rw [name_out k h]
    decide
end Go.Proofs.YtfaelejeihmgcaaDoor.Stp
end

section
namespace Go.Proofs.YtfaelejeihmgcaaDoor.Stp
open Go.RowKit Go.Proofs.YtfaelejeihmgcaaDoorW.PrintWords Go.Proofs.YtfaelejeihmgcaaDoorW.PrintLast
/-- what stands behind a printing -/
def Printed (w : World) (r : ByteArray × Int) (e : Ending) (w' : World) : Prop := e = .returned (.tuple #[.string r.1, .int .i64 r.2]) ∧ Below w.heap.size w w'
theorem num_cell {W : World} {g : Nat} {o : OpV} {vk vm : Value} (h : W.heap[g]? = some (.cells #[.int .i64 o.kind, .int .i64 o.s, .string o.key, .string o.val, vk, .int .i64 o.n, vm, .int .i64 o.page, .int .i64 o.at_, .int .i64 o.x] 61)) (c : Int) : W.cell? ⟨g, offN c, none⟩ = some (.int .i64 (getNum o c)) := by
  obtain ⟨_, r1, _, _, _, r5, _, r7, r8, r9⟩ := cells10 h
  unfold offN getNum
  repeat' split
  all_goals assumption
set_option maxHeartbeats 16000000 in
set_option maxRecDepth 100000 in
theorem step_Print_walk (o : OpV) (Ak : Option Addr) (ck : Nat) (Am : Option Addr) (cm : Nat) (w : World) (hl : OpL w o Ak ck Am cm) (hT : Tabs w) (hk : o.keys.length ≤ 1000) (hm : o.mask.length ≤ 1000) (hj : ∀ l, printW o = some l → Joins l) :
    Calls Tryd.prog 47 #[.agg #[.int .i64 o.kind, .int .i64 o.s, .string o.key, .string o.val, .slice Ak o.keys.length ck, .int .i64 o.n, .slice Am o.mask.length cm, .int .i64 o.page, .int .i64 o.at_, .int .i64 o.x]] w (Printed w (printT o)) := by
  obtain ⟨P, hP⟩ : ∃ P, P = printW o := ⟨_, rfl⟩
  have hR : printT o = printR P := by rw [hP]; rfl
  rw [hR]
  rw [← hP] at hj
  have HP := Lib.hid hP
  have HJ := Lib.hid hj
  have hO1 := OpAt.alloc hl
  have hb1 := below_alloc (Below.refl _ w) (opO o Ak ck Am cm)
  have hcu := hl.k
  have hCm := hl.m
  have Hl := Lib.hid hl
  have hlt1 : w.heap.size < (w.alloc (opO o Ak ck Am cm)).heap.size := by simp
  have hz1 := hO1.1
  clear hP hR hj hO1 hl hcu hCm
  go_enter Tryd.func47, Tryd.ntmps47
  go_wp2_with fail
  change Calls Tryd.prog 81 _ (w.alloc (opO o Ak ck Am cm)) _
  generalize w.alloc (opO o Ak ck Am cm) = w1 at hz1 hb1 hlt1 ⊢
  obtain ⟨⟨nw, nf⟩, hn⟩ : ∃ r, nameT o.kind = r := ⟨_, rfl⟩
  have hnm := fun W => step_name.calls o.kind nw nf W (by rw [name_any, hn])
  have hP := HP.out
  have hns := name_len o.kind
  rw [printW, hn] at hP
  rw [hn] at hns
  simp only at hP hns
  replace HP := Lib.hid hP
  clear hP hn
  refine (hnm _).mono ?_
  rintro en w2 ⟨rfl, hd⟩
  have hb2 := below_then hb1 hb1.size hd.below
  have hz2 := (hd.below.block w.heap.size hlt1).trans hz1
  clear hnm hd hz1 hb1
  by_cases hne : nw.toList = []
  · have hP : P = none := by rw [HP.out, if_pos hne]
    subst hP
    have t1 : nw.toList.isEmpty = true := by rw [hne]; rfl
    clear HP HJ
    go_wp2
    go_ret2
    exact ⟨rfl, hb2⟩
  · have hP := HP.out
    rw [if_neg hne] at hP
    replace HP := Lib.hid hP
    have t1 : nw.toList.isEmpty = false := by
      cases h : nw.toList with
      | nil => exact absurd h hne
      | cons a b => rfl
    clear hP hne
    go_wp2_with ((with_reducible refine gate_dst (N := 21) rfl ?_); refine Kd.R_lit Kd.string w.heap.size 9 (w0 := w) ?hg (N := 21) ?hd (xs := [nw]) (inner := [.string nw]) (ok := fun _ => True) (okp := fun _ => True) ?hr ?hp (fun _ hk => hk) trivial hb2 hb2.size (by simp) ?_; (case hd => rfl); (case hg => rfl); (case hr => first | (go_simp; done) | (go_simp; rfl)); (case hp => exact (Reps.one (show Kd.M Kd.string _ _ _ nw [.string nw] from rfl) (Reps.none _ _))))
    intro v0 w3 hR0 hb3 hg3 bb hbb hble
    have hz3 := (hg3.block w.heap.size (blk_lt hz2) (by simp)).trans hz2
    clear hg3 hbb hble hb2 hz2
    go_wp2_with fail
    go_loopw [6, 24] (fun v i wr => ∃ (j : Nat) (acc : List ByteArray), j ≤ nf.size ∧ i = .int .i64 j ∧ Kd.R Kd.string 9 wr w.heap.size (fun _ => True) v acc ∧ Below w.heap.size w wr ∧ wr.heap[w.heap.size]? = some (.cells #[.int .i64 o.kind, .int .i64 o.s, .string o.key, .string o.val, .slice Ak o.keys.length ck, .int .i64 o.n, .slice Am o.mask.length cm, .int .i64 o.page, .int .i64 o.at_, .int .i64 o.x] 61) ∧ acc.length ≤ 2000 * (j + 1) ∧ Aside0 (P = printF (nf.data.toList.drop j) o acc)) (fun _ i _ => nf.size - (intOf i).toNat)
    case atStart => exact ⟨0, [nw], Nat.zero_le _, rfl, hR0, hb3, hz3, by simp, ⟨by rw [List.drop_zero]; exact HP.out⟩⟩
    case round =>
      clear HP hR0 hb3 hz3
      obtain ⟨j, acc, hjl, rfl, hRa, hbr, hzr, hlen, hq⟩ := hrel
      obtain ⟨Aa, ca, ea⟩ := Kd.R_slice hRa
      subst ea
      by_cases hlt : j < nf.size
      · have hdj : nf.data.toList.drop j = nf[j] :: nf.data.toList.drop (j + 1) := List.drop_eq_getElem_cons (by rw [← Lib.size_eq]; exact hlt)
        have hqs := hq.out
        rw [hdj, printF] at hqs
        obtain ⟨fc, hfc⟩ : ∃ fc : Int, (nf[j].toNat : Int) = fc := ⟨_, rfl⟩
        have hix : ∀ W, (Instr.index 9 (.string nf) (.int .i64 (j : Int))).run Tryd.prog W = .ok (.int .u8 fc) W := fun W => by rw [← hfc]; go_simp
        rw [hfc] at hqs
        have Hqs := Lib.hid hqs
        have hne : some w.heap.size ≠ (Value.slice Aa acc.length ca).ownBlock := Kd.R_ne hRa hzr (by decide)
        have hlen1 : (acc.length + 1) * 16 ≤ 140737488355328 := by omega
        clear hdj hqs hq hfc
        by_cases h107 : fc = 107
        · subst h107
          have hqs := Hqs.out
          rw [if_pos rfl] at hqs
          have Hq2 := Lib.hid hqs
          have r2 : wr.cell? ⟨w.heap.size, 2, none⟩ = some (.string o.key) := Lib.cell_of_heap hzr 2
          clear hqs Hqs
          go_wp2_with (at_builtin; refine Kd.R_append Kd.string (w0 := w) w.heap.size rfl (.tmp 46) (.tmp 49) 22 9 (.string ⟨#[]⟩) 16 rfl Tryd.underlying22 info9 rfl (by decide) (by decide) (.slice Aa acc.length ca) acc o.key [.string o.key] (fun _ => True) (fun _ => False) rfl (by first | (go_simp; done) | (go_simp; rfl)) rfl (fun _ hk => hk.elim) (fun _ _ => trivial) hRa hbr hbr.size hlen1 ?_)
          intro v1 w4 hR4 hb4 hg4 _
          have hz4 := (hg4.block w.heap.size (blk_lt hzr) hne).trans hzr
          clear r2 hg4 hne hzr hRa hbr
          go_wp2
          go_roundw
          case rel => exact ⟨j + 1, acc ++ [o.key], hlt, by simp, hR4, hb4, hz4, by rw [List.length_append]; simp; omega, ⟨Hq2.out⟩⟩
          case measure => simp [intOf]; omega
        have hqs := Hqs.out
        rw [if_neg h107] at hqs
        replace Hqs := Lib.hid hqs
        have t107 : (fc == 107) = false := beq_eq_false_iff_ne.2 h107
        clear hqs
        by_cases h118 : fc = 118
        · subst h118
          have hqs := Hqs.out
          rw [if_pos rfl] at hqs
          have Hq2 := Lib.hid hqs
          have r3 : wr.cell? ⟨w.heap.size, 3, none⟩ = some (.string o.val) := Lib.cell_of_heap hzr 3
          clear hqs Hqs
          go_wp2_with (at_builtin; refine Kd.R_append Kd.string (w0 := w) w.heap.size rfl (.tmp 53) (.tmp 56) 22 9 (.string ⟨#[]⟩) 16 rfl Tryd.underlying22 info9 rfl (by decide) (by decide) (.slice Aa acc.length ca) acc o.val [.string o.val] (fun _ => True) (fun _ => False) rfl (by first | (go_simp; done) | (go_simp; rfl)) rfl (fun _ hk => hk.elim) (fun _ _ => trivial) hRa hbr hbr.size hlen1 ?_)
          intro v1 w4 hR4 hb4 hg4 _
          have hz4 := (hg4.block w.heap.size (blk_lt hzr) hne).trans hzr
          clear r3 hg4 hne hzr hRa hbr
          go_wp2
          go_roundw
          case rel => exact ⟨j + 1, acc ++ [o.val], hlt, by simp, hR4, hb4, hz4, by rw [List.length_append]; simp; omega, ⟨Hq2.out⟩⟩
          case measure => simp [intOf]; omega
        have hqs := Hqs.out
        rw [if_neg h118] at hqs
        replace Hqs := Lib.hid hqs
        have t118 : (fc == 118) = false := beq_eq_false_iff_ne.2 h118
        clear hqs
        by_cases h75 : fc = 75
        · subst h75
          have hqs := Hqs.out
          rw [if_pos rfl] at hqs
          have Hq2 := Lib.hid hqs
          have r4 : wr.cell? ⟨w.heap.size, 4, none⟩ = some (.slice Ak o.keys.length ck) := Lib.cell_of_heap hzr 4
          have hC := Kd.C_below Hl.out.k hbr
          have hKM : ∀ (x : ByteArray) (cs : List Value), Kd.string.K wr x cs → Kd.string.M wr w.heap.size (fun _ => False) x cs := fun x cs h => h
          have hlen2 : (acc.length + o.keys.length) * 16 ≤ 140737488355328 := by omega
          clear hqs Hqs hlen1
          go_wp2_with (at_builtin; refine Kd.R_append_rows Kd.string (Rr := Kd.string.K wr) (w0 := w) w.heap.size rfl (.tmp 60) (.tmp 62) 22 9 (.string ⟨#[]⟩) 16 rfl Tryd.underlying22 info9 rfl (by decide) (by decide) (.slice Aa acc.length ca) acc o.keys Ak o.keys.length ck (fun _ => True) (fun _ => False) rfl rfl hRa hC hKM (fun _ h => h.elim) (fun _ _ => trivial) hbr hbr.size hlen2 ?_)
          intro v1 w4 hR4 hb4 hg4 _
          have hz4 := (hg4.block w.heap.size (blk_lt hzr) hne).trans hzr
          clear r4 hg4 hne hzr hRa hbr hC hKM hlen2
          go_wp2
          go_roundw
          case rel => exact ⟨j + 1, acc ++ o.keys, hlt, by simp, hR4, hb4, hz4, by rw [List.length_append]; omega, ⟨Hq2.out⟩⟩
          case measure => simp [intOf]; omega
        have hqs := Hqs.out
        rw [if_neg h75] at hqs
        replace Hqs := Lib.hid hqs
        have t75 : (fc == 75) = false := beq_eq_false_iff_ne.2 h75
        clear hqs
        by_cases h77 : fc = 77
        · subst h77
          have hqs := Hqs.out
          rw [if_pos rfl] at hqs
          have Hq2 := Lib.hid hqs
          have r6 : wr.cell? ⟨w.heap.size, 6, none⟩ = some (.slice Am o.mask.length cm) := Lib.cell_of_heap hzr 6
          clear hqs Hqs hne hlen1
          go_wp2_with fail
          go_loopw [6, 69] (fun v i wi => ∃ (q : Nat) (a2 : List ByteArray), q ≤ o.mask.length ∧ i = .int .i64 q ∧ Kd.R Kd.string 9 wi w.heap.size (fun _ => True) v a2 ∧ Below w.heap.size w wi ∧ wi.heap[w.heap.size]? = some (.cells #[.int .i64 o.kind, .int .i64 o.s, .string o.key, .string o.val, .slice Ak o.keys.length ck, .int .i64 o.n, .slice Am o.mask.length cm, .int .i64 o.page, .int .i64 o.at_, .int .i64 o.x] 61) ∧ a2.length ≤ acc.length + q ∧ Aside0 (maskW o.mask acc = maskW (o.mask.drop q) a2)) (fun _ i _ => o.mask.length - (intOf i).toNat)
          case atStart => exact ⟨0, acc, Nat.zero_le _, rfl, hRa, hbr, hzr, Nat.le_refl _, ⟨by rw [List.drop_zero]⟩⟩
          case round =>
            clear r6 hRa hbr hzr
            obtain ⟨q, a2, hql, rfl, hRi, hbi, hzi, hl2, hm2⟩ := hrel
            obtain ⟨Ai, ci, ei⟩ := Kd.R_slice hRi
            subst ei
            by_cases hlq : q < o.mask.length
            · obtain ⟨adw, ew, c0⟩ := Kd.at_int (Kd.C_below Hl.out.m hbi) q (by omega) (by omega)
              obtain ⟨v, hv⟩ : ∃ v, o.mask[q] = v := ⟨_, rfl⟩
              have hrd : rd o.mask (q : Int) = v := by rw [← hv]; simp [rd, List.getD_eq_getElem?_getD, List.getElem?_eq_getElem hlq]
              rw [hrd] at c0
              simp only [Int.toNat_natCast] at c0
              have hsn := hm2.out
              rw [List.drop_eq_getElem_cons hlq, maskW, hv] at hsn
              obtain ⟨fb, hfb⟩ : ∃ fb, fitsB 77 v = fb := ⟨_, rfl⟩
              rw [hfb] at hsn
              have hit := fun W (hf : fb = true) (h : Tabs W) => strconv_Itoa.calls v (itoaB v) W (itoa_ok 77 v (hfb.trans hf)) h
              have hft := fun W => step_fits.calls 77 v fb W (by rw [fits_f, hfb])
              have Hsn := Lib.hid hsn
              clear hsn hm2 hv hrd hfb
              subst ew
              go_wp2_with fail
              refine (hft _).mono ?_
              rintro e w4 ⟨rfl, hd⟩
              have hR4 := Kd.R_below hRi hd.below
              have hz4 := (hd.below.block w.heap.size (blk_lt hzi)).trans hzi
              have hb4 := below_then hbi hbi.size hd.below
              clear hft hd c0 hzi hbi hRi
              cases fb
              · have hqs := Hq2.out
                rw [Hsn.out, if_neg (by decide)] at hqs
                have hqs2 : P = none := hqs
                subst hqs2
                clear Hq2 hit hqs Hsn
                go_wp2
                go_ret2
                exact ⟨rfl, hb4⟩
              · have hsn := Hsn.out
                rw [if_pos rfl] at hsn
                have Hs2 := Lib.hid hsn
                have hit2 := hit w4 rfl (hT.below hb4)
                clear hsn Hsn hit
                go_wp2_with fail
                refine hit2.mono ?_
                rintro e w5 ⟨rfl, hb⟩
                have hR5 := Kd.R_below hR4 hb
                have hz5 := (hb.block w.heap.size (blk_lt hz4)).trans hz4
                have hb5 := below_then hb4 hb4.size hb
                have hne : some w.heap.size ≠ (Value.slice Ai a2.length ci).ownBlock := Kd.R_ne hR5 hz5 (by decide)
                have hlen1 : (a2.length + 1) * 16 ≤ 140737488355328 := by omega
                clear hit2 hb hR4 hz4 hb4
                go_wp2_with (at_builtin; refine Kd.R_append Kd.string (w0 := w) w.heap.size rfl (.tmp 77) (.tmp 80) 22 9 (.string ⟨#[]⟩) 16 rfl Tryd.underlying22 info9 rfl (by decide) (by decide) (.slice Ai a2.length ci) a2 (itoaB v) [.string (itoaB v)] (fun _ => True) (fun _ => False) rfl (by first | (go_simp; done) | (go_simp; rfl)) rfl (fun _ hk => hk.elim) (fun _ _ => trivial) hR5 hb5 hb5.size hlen1 ?_)
                intro v1 w6 hR6 hb6 hg6 _
                have hz6 := (hg6.block w.heap.size (blk_lt hz5) hne).trans hz5
                clear hg6 hne hz5 hR5 hb5 hlen1
                go_wp2
                go_roundw
                case rel => exact ⟨q + 1, a2 ++ [itoaB v], hlq, by simp, hR6, hb6, hz6, by rw [List.length_append]; simp; omega, ⟨Hs2.out⟩⟩
                case measure => simp [intOf]; omega
            · have hqe : q = o.mask.length := by omega
              subst hqe
              have hsn := hm2.out
              rw [List.drop_eq_nil_of_le (Nat.le_refl _), maskW] at hsn
              have hqs := Hq2.out
              rw [hsn] at hqs
              have Hq3 := Lib.hid hqs
              clear hqs hsn Hq2 hm2
              go_wp2
              go_roundw
              case rel => exact ⟨j + 1, a2, hlt, by simp, hRi, hbi, hzi, by omega, ⟨Hq3.out⟩⟩
              case measure => simp [intOf]; omega
        have hqs := Hqs.out
        rw [if_neg h77] at hqs
        have t77 : (fc == 77) = false := beq_eq_false_iff_ne.2 h77
        obtain ⟨v, hv⟩ : ∃ v, getNum o fc = v := ⟨_, rfl⟩
        have rv := num_cell hzr fc
        rw [hv] at rv hqs
        obtain ⟨fb, hfb⟩ : ∃ fb, fitsB fc v = fb := ⟨_, rfl⟩
        rw [hfb] at hqs
        have hit := fun W (hf : fb = true) (h : Tabs W) => strconv_Itoa.calls v (itoaB v) W (itoa_ok fc v (hfb.trans hf)) h
        have hft := fun W => step_fits.calls fc v fb W (by rw [fits_f, hfb])
        replace Hqs := Lib.hid hqs
        clear hqs hv hfb h107 h118 h75 h77
        go_wp2_with fail
        refine (step_number_calls w.heap.size fc wr).mono ?_
        rintro e w' ⟨rfl, rfl⟩
        go_wp2_with fail
        refine (hft _).mono ?_
        rintro e w4 ⟨rfl, hd⟩
        have hR4 := Kd.R_below hRa hd.below
        have hz4 := (hd.below.block w.heap.size (blk_lt hzr)).trans hzr
        have hb4 := below_then hbr hbr.size hd.below
        clear hft hd rv hzr hbr hRa
        cases fb
        · have hqs := Hqs.out
          rw [if_neg (by decide)] at hqs
          subst hqs
          clear Hqs hit
          go_wp2
          go_ret2
          exact ⟨rfl, hb4⟩
        · have hqs := Hqs.out
          rw [if_pos rfl] at hqs
          have Hq2 := Lib.hid hqs
          have hit2 := hit w4 rfl (hT.below hb4)
          clear hqs Hqs hit
          go_wp2_with fail
          refine hit2.mono ?_
          rintro e w5 ⟨rfl, hb⟩
          have hR5 := Kd.R_below hR4 hb
          have hz5 := (hb.block w.heap.size (blk_lt hz4)).trans hz4
          have hb5 := below_then hb4 hb4.size hb
          have hne : some w.heap.size ≠ (Value.slice Aa acc.length ca).ownBlock := Kd.R_ne hR5 hz5 (by decide)
          clear hit2 hb hR4 hz4 hb4
          go_wp2_with (at_builtin; refine Kd.R_append Kd.string (w0 := w) w.heap.size rfl (.tmp 39) (.tmp 42) 22 9 (.string ⟨#[]⟩) 16 rfl Tryd.underlying22 info9 rfl (by decide) (by decide) (.slice Aa acc.length ca) acc (itoaB v) [.string (itoaB v)] (fun _ => True) (fun _ => False) rfl (by first | (go_simp; done) | (go_simp; rfl)) rfl (fun _ hk => hk.elim) (fun _ _ => trivial) hR5 hb5 hb5.size hlen1 ?_)
          intro v1 w6 hR6 hb6 hg6 _
          have hz6 := (hg6.block w.heap.size (blk_lt hz5) hne).trans hz5
          clear hg6 hne hz5 hR5 hb5
          go_wp2
          go_roundw
          case rel => exact ⟨j + 1, acc ++ [itoaB v], hlt, by simp, hR6, hb6, hz6, by rw [List.length_append]; simp; omega, ⟨Hq2.out⟩⟩
          case measure => simp [intOf]; omega
      · have hje : j = nf.size := by omega
        subst hje
        have hqs := hq.out
        rw [List.drop_eq_nil_of_le (by rw [← Lib.size_eq]; exact Nat.le_refl _), printF] at hqs
        subst hqs
        have hJ := HJ.out acc rfl
        have hRc := Kd.R_reads' hRa
        have hjoin := fun W (hC : Kd.C Kd.string W Aa acc.length acc) (h : Tabs W) => Wd.word_Join.calls 2000000 Aa ca acc (lineOf acc) W hC hRc.2.1 (Wd.wJoin_f acc hJ.n hJ.s hJ.j 2000000 (by have := hJ.n; omega)) h.u
        have hjw := hjoin wr hRc.2.2 (hT.below hbr)
        clear hjoin hRc hJ HJ hq hRa hzr hlen
        go_wp2_with fail
        refine hjw.mono ?_
        rintro en w4 ⟨rfl, hb4⟩
        have hb5 := below_then hbr hbr.size hb4
        clear hb4 hbr hjw
        go_wp2
        go_ret2
        exact ⟨rfl, hb5⟩
end Go.Proofs.YtfaelejeihmgcaaDoor.Stp
end

section
namespace Go.Proofs.YtfaelejeihmgcaaDoor.Stp
open Go.RowKit Go.Proofs.YtfaelejeihmgcaaDoorW.PrintWords Go.Proofs.YtfaelejeihmgcaaDoorW.PrintLast
def numsOf (o : OpV) : List Int := if o.kind = 2 ∨ o.kind = 3 ∨ o.kind = 4 ∨ o.kind = 5 ∨ o.kind = 6 then [o.s] else if o.kind = 11 then [o.n] else if o.kind = 12 then o.mask else if o.kind = 13 then [o.page, o.at_, o.x] else []
def restOf (o : OpV) : List ByteArray := if o.kind = 2 then [o.key, o.val] else if o.kind = 3 then [o.key] else if o.kind = 4 then o.keys else if o.kind = 8 ∨ o.kind = 9 then [o.key] else []
def refW (o : OpV) : Option (List ByteArray) := if o.kind < 1 ∨ 14 < o.kind then none else if o.kind = 13 ∧ (o.x < 0 ∨ 255 < o.x) then none else (maskW (numsOf o) [wordAt o.kind.toNat]).map (· ++ restOf o)
theorem nums2_len (o : OpV) (h : o.mask.length ≤ 1000) : (numsOf o).length ≤ 1000 := by
  unfold numsOf
  repeat' split
  all_goals first | exact h | (simp; done)
theorem rest2_len (o : OpV) (h : o.keys.length ≤ 1000) : (restOf o).length ≤ 1000 := by
  unfold restOf
  repeat' split
  all_goals first | exact h | (simp; done)
theorem keep_step {wc wr w1 : World} {g : Nat} {row : Option Nat} (h : KeepBut wc wr g none) (k : wr.grownBy w1 row) (hr : row = some g ∨ ∃ b, row = some b ∧ wc.heap.size ≤ b) : KeepBut wc w1 g none :=
  ⟨Nat.le_trans h.1 k.size, fun i hi hg _ => (k.block i (Nat.lt_of_lt_of_le hi h.1) (by
    intro e
    rcases hr with rfl | ⟨b, rfl, hb⟩
    · cases e; exact hg rfl
    · cases e; omega)).trans (h.2 i hi hg (by simp))⟩
theorem keep_below {wc wr w1 : World} {g : Nat} (h : KeepBut wc wr g none) (k : Below wr.heap.size wr w1) : KeepBut wc w1 g none :=
  ⟨Nat.le_trans h.1 k.size, fun i hi hg hn => (k.block i (Nat.lt_of_lt_of_le hi h.1)).trans (h.2 i hi hg hn)⟩
def AtB (wc : World) (g : Nat) (v : Value) : Prop := v.ownBlock = some g ∨ ∃ b, v.ownBlock = some b ∧ wc.heap.size ≤ b
theorem AtB.step {wc wr : World} {g : Nat} {v v1 : Value} (h : AtB wc g v) (hs : wc.heap.size ≤ wr.heap.size) (k : v1.ownBlock = v.ownBlock ∨ ∃ b, v1.ownBlock = some b ∧ wr.heap.size ≤ b) : AtB wc g v1 := by
  rcases k with k | ⟨b, k, hb⟩
  · unfold AtB; rw [k]; exact h
  · exact .inr ⟨b, k, by omega⟩
/-- the numbers and the texts of a line, in memory -/
structure Two (W : World) (g : Nat) (o : OpV) (An : Option Addr) (cn : Nat) (Ar : Option Addr) (cr : Nat) : Prop where
  n : Kd.C (Kd.int .i64) W An (numsOf o).length (numsOf o)
  nc : (numsOf o).length ≤ cn
  r : Kd.C Kd.string W Ar (restOf o).length (restOf o)
  rc : (restOf o).length ≤ cr
  fn : ∀ ad, An = some ad → 0 < (numsOf o).length → ad.block ≠ g
  fr : ∀ ad, Ar = some ad → 0 < (restOf o).length → ad.block ≠ g
theorem C_ints (W : World) (g : Nat) (hg : W.heap.size = g) (xs : List Int) (h : xs.length ≤ 1000) : Kd.C (Kd.int .i64) (W.alloc (.cells (nums .i64 xs).toArray 3)) (some ⟨g, 0, none⟩) xs.length xs := by
  subst hg
  have ho := own_lit W 0 3 .i64 xs (Nat.zero_le _) (by omega)
  exact (Kd.R_reads' (Kd.R_of_own (enc := Value.int .i64) (h1 := fun _ => rfl) (ok := fun _ => True) ho (fun _ _ => trivial))).2.2
theorem C_texts (W : World) (g : Nat) (hg : W.heap.size = g) (xs : List ByteArray) (h : xs.length ≤ 1000) : Kd.C Kd.string (W.alloc (.cells (encs Value.string xs).toArray 9)) (some ⟨g, 0, none⟩) xs.length xs := by
  subst hg
  have ho := own_lit_of (enc := Value.string) W 0 9 xs (Nat.zero_le _) (by omega)
  exact (Kd.R_reads' (Kd.R_of_own (enc := Value.string) (h1 := fun _ => rfl) (ok := fun _ => True) ho (fun _ _ => trivial))).2.2
theorem rel_mk {w3 wc : World} {g : Nat} {o : OpV} {N : List Int} {R : List ByteArray} {An Ar : Option Addr} {cn cr : Nat} (hN : numsOf o = N) (hR : restOf o = R) (h1 : Kd.C (Kd.int .i64) wc An N.length N) (h2 : N.length ≤ cn)
    (h3 : Kd.C Kd.string wc Ar R.length R) (h4 : R.length ≤ cr) (h5 : ∀ ad, An = some ad → 0 < N.length → ad.block ≠ g) (h6 : ∀ ad, Ar = some ad → 0 < R.length → ad.block ≠ g) (hb : Below w3.heap.size w3 wc) (h13 : ¬ (o.kind = 13 ∧ (o.x < 0 ∨ 255 < o.x))) :
    ∃ An' cn' Ar' cr', Value.slice An N.length cn = .slice An' (numsOf o).length cn' ∧ Value.slice Ar R.length cr = .slice Ar' (restOf o).length cr' ∧ Two wc g o An' cn' Ar' cr' ∧ Below w3.heap.size w3 wc ∧ ¬ (o.kind = 13 ∧ (o.x < 0 ∨ 255 < o.x)) :=
  ⟨An, cn, Ar, cr, by rw [hN], by rw [hR], ⟨by rw [hN]; exact h1, by rw [hN]; exact h2, by rw [hR]; exact h3, by rw [hR]; exact h4, by rw [hN]; exact h5, by rw [hR]; exact h6⟩, hb, h13⟩
set_option maxHeartbeats 16000000 in
set_option maxRecDepth 100000 in
theorem ref_Print_walk (o : OpV) (Ak : Option Addr) (ck : Nat) (Am : Option Addr) (cm : Nat) (w : World) (hl : OpL w o Ak ck Am cm) (hT : TabsR w) (hk : o.keys.length ≤ 1000) (hm : o.mask.length ≤ 1000) (hj : ∀ l, refW o = some l → Joins l) :
    Calls Tryd.prog 48 #[.agg #[.int .i64 o.kind, .int .i64 o.s, .string o.key, .string o.val, .slice Ak o.keys.length ck, .int .i64 o.n, .slice Am o.mask.length cm, .int .i64 o.page, .int .i64 o.at_, .int .i64 o.x]] w (Printed w (printR (refW o))) := by
  obtain ⟨P, hP⟩ : ∃ P, P = refW o := ⟨_, rfl⟩
  rw [← hP]
  rw [← hP] at hj
  have HP := Lib.hid hP
  have HJ := Lib.hid hj
  have hO1 := OpAt.alloc hl
  have hb1 := below_alloc (Below.refl _ w) (opO o Ak ck Am cm)
  have Hl := Lib.hid hl
  have hlt1 : w.heap.size < (w.alloc (opO o Ak ck Am cm)).heap.size := by simp
  have hz1 := hO1.1
  clear hP hj hO1 hl
  go_enter Tryd.func48, Tryd.ntmps48
  go_upto_region 1 with (fail)
  change Code.wp _ _ _ _ (w.alloc (opO o Ak ck Am cm))
  generalize w.alloc (opO o Ak ck Am cm) = w1 at hz1 hb1 hlt1 ⊢
  have r0 : w1.cell? ⟨w.heap.size, 0, none⟩ = some (.int .i64 o.kind) := Lib.cell_of_heap hz1 0
  by_cases hk1 : o.kind < 1 ∨ 14 < o.kind
  · have hP : P = none := by rw [HP.out, refW, if_pos hk1]
    subst hP
    clear HP HJ
    by_cases hk2 : o.kind < 1
    · have t1 : decide (o.kind < 1) = true := decide_eq_true hk2
      clear hk1 hk2
      go_wp2
      go_ret2
      exact ⟨rfl, hb1⟩
    · have t1 : decide (o.kind < 1) = false := decide_eq_false hk2
      have t2 : decide (14 < o.kind) = true := decide_eq_true (by omega)
      clear hk1 hk2
      go_wp2
      go_ret2
      exact ⟨rfl, hb1⟩
  · have hP := HP.out
    rw [refW, if_neg hk1] at hP
    replace HP := Lib.hid hP
    have t1 : decide (o.kind < 1) = false := decide_eq_false (by omega)
    have t2 : decide (14 < o.kind) = false := decide_eq_false (by omega)
    have t3 : 0 ≤ o.kind := by omega
    obtain ⟨kn, hkn⟩ : ∃ kn : Nat, o.kind = kn := ⟨o.kind.toNat, by omega⟩
    have hwc := (World.var?_cell (g := 0) (by kernel_rfl) (hT.below hb1).wd kn).trans (word_cell kn (by omega))
    have hkl : kn < 15 := by omega
    have hk0 : 1 ≤ kn := by omega
    rw [hkn] at r0 t1 t2
    clear hP hk1 t3
    go_wp2_with ((with_reducible refine gate_dst (N := 20) rfl ?_); refine Kd.R_lit Kd.string w.heap.size 9 (w0 := w) ?hg (N := 20) ?hd (xs := [wordAt kn]) (inner := [.string (wordAt kn)]) (ok := fun _ => True) (okp := fun _ => True) ?hr ?hp (fun _ hk => hk) trivial hb1 hb1.size (by simp) ?_; (case hd => rfl); (case hg => rfl); (case hr => first | (go_simp; done) | (go_simp; rfl)); (case hp => exact (Reps.one (show Kd.M Kd.string _ _ _ (wordAt kn) [.string (wordAt kn)] from rfl) (Reps.none _ _))))
    intro v0 w3 hR0 hb3 hg3 bb hbb hble
    have hz3 := (hg3.block w.heap.size hlt1 (by simp)).trans hz1
    clear hg3 hbb hble r0 hwc t1 t2 hz1 hb1 hlt1
    have r0 : w3.cell? ⟨w.heap.size, 0, none⟩ = some (.int .i64 o.kind) := Lib.cell_of_heap hz3 0
    rw [hkn] at r0
    obtain ⟨g, c4, e4, hgb, hgl, _⟩ := Kd.R_form hR0 (by simp)
    have e4' : v0 = .slice (some ⟨g, 0, none⟩) 1 c4 := e4
    subst e4'
    clear e4
    go_upto_block 0 with (fail)
    go_cut [5, 6] (fun v5 v6 wc => ∃ An cn Ar cr, v5 = .slice An (numsOf o).length cn ∧ v6 = .slice Ar (restOf o).length cr ∧ Two wc g o An cn Ar cr ∧ Below w3.heap.size w3 wc ∧ ¬ (o.kind = 13 ∧ (o.x < 0 ∨ 255 < o.x)))
    case first =>
      clear HJ
      obtain ⟨_, r1, r2, r3, r4, r5, r6, r7, r8, r9⟩ := cells10 hz3
      have kc : kn = 1 ∨ kn = 2 ∨ kn = 3 ∨ kn = 4 ∨ kn = 5 ∨ kn = 6 ∨ kn = 7 ∨ kn = 8 ∨ kn = 9 ∨ kn = 10 ∨ kn = 11 ∨ kn = 12 ∨ kn = 13 ∨ kn = 14 := by omega
      have Hkn := Lib.hid hkn
      have hlt := blk_lt hz3
      clear hkn
      rcases kc with rfl | rfl | rfl | rfl | rfl | rfl | rfl | rfl | rfl | rfl | rfl | rfl | rfl | rfl
      · go_wp2
        go_meet
        case rel => exact rel_mk (N := []) (R := []) (by simp [numsOf, Hkn.out]) (by simp [restOf, Hkn.out]) (Kd.C_nil _ _) (Nat.zero_le _) (Kd.C_nil _ _) (Nat.zero_le _) (fun ad h => by cases h) (fun ad h => by cases h) (by repeat (first | exact Below.refl _ _ | apply below_drew | apply below_alloc)) (by rw [Hkn.out]; omega)
      · go_wp2
        go_region
        all_goals go_wp2
        all_goals go_meet
        all_goals (case rel => exact rel_mk (N := [o.s]) (R := [o.key, o.val]) (by simp [numsOf, Hkn.out]) (by simp [restOf, Hkn.out]) (by first | exact Kd.C_drew (Kd.C_alloc (C_ints w3 _ rfl [o.s] (by simp)) _) | exact Kd.C_drew (C_ints _ _ (by simp) [o.s] (by simp)) | exact C_ints w3 _ rfl [o.s] (by simp)) (Nat.le_refl _) (by first | exact Kd.C_drew (Kd.C_alloc (C_texts w3 _ rfl [o.key, o.val] (by simp)) _) | exact Kd.C_drew (C_texts _ _ (by simp) [o.key, o.val] (by simp)) | exact C_texts w3 _ rfl [o.key, o.val] (by simp)) (Nat.le_refl _) (fun ad h _ => by cases h; show _ ≠ g; simp; omega) (fun ad h _ => by cases h; show _ ≠ g; simp; omega) (by repeat (first | exact Below.refl _ _ | apply below_drew | apply below_alloc)) (by rw [Hkn.out]; omega))
      · go_wp2
        go_region
        all_goals go_wp2
        all_goals go_meet
        all_goals (case rel => exact rel_mk (N := [o.s]) (R := [o.key]) (by simp [numsOf, Hkn.out]) (by simp [restOf, Hkn.out]) (by first | exact Kd.C_drew (Kd.C_alloc (C_ints w3 _ rfl [o.s] (by simp)) _) | exact Kd.C_drew (C_ints _ _ (by simp) [o.s] (by simp)) | exact C_ints w3 _ rfl [o.s] (by simp)) (Nat.le_refl _) (by first | exact Kd.C_drew (Kd.C_alloc (C_texts w3 _ rfl [o.key] (by simp)) _) | exact Kd.C_drew (C_texts _ _ (by simp) [o.key] (by simp)) | exact C_texts w3 _ rfl [o.key] (by simp)) (Nat.le_refl _) (fun ad h _ => by cases h; show _ ≠ g; simp; omega) (fun ad h _ => by cases h; show _ ≠ g; simp; omega) (by repeat (first | exact Below.refl _ _ | apply below_drew | apply below_alloc)) (by rw [Hkn.out]; omega))
      · go_wp2
        go_region
        all_goals go_wp2
        all_goals go_meet
        all_goals (case rel => exact rel_mk (N := [o.s]) (R := o.keys) (by simp [numsOf, Hkn.out]) (by simp [restOf, Hkn.out]) (by first | exact Kd.C_drew (C_ints w3 _ rfl [o.s] (by simp)) | exact C_ints _ _ (by simp) [o.s] (by simp)) (Nat.le_refl _) (Kd.C_below Hl.out.k (below_then hb3 hb3.size (by repeat (first | exact Below.refl _ _ | apply below_drew | apply below_alloc)))) Hl.out.kc (fun ad h _ => by cases h; show _ ≠ g; simp; omega) (Kd.far_C ByteArray.empty Hl.out.k hgb) (by repeat (first | exact Below.refl _ _ | apply below_drew | apply below_alloc)) (by rw [Hkn.out]; omega))
      · go_wp2
        go_meet
        case rel => exact rel_mk (N := [o.s]) (R := []) (by simp [numsOf, Hkn.out]) (by simp [restOf, Hkn.out]) (by first | exact Kd.C_drew (Kd.C_alloc (C_ints w3 _ rfl [o.s] (by simp)) _) | exact Kd.C_drew (C_ints _ _ (by simp) [o.s] (by simp)) | exact C_ints w3 _ rfl [o.s] (by simp)) (Nat.le_refl _) (Kd.C_nil _ _) (Nat.zero_le _) (fun ad h _ => by cases h; show _ ≠ g; simp; omega) (fun ad h => by cases h) (by repeat (first | exact Below.refl _ _ | apply below_drew | apply below_alloc)) (by rw [Hkn.out]; omega)
      · go_wp2
        go_meet
        case rel => exact rel_mk (N := [o.s]) (R := []) (by simp [numsOf, Hkn.out]) (by simp [restOf, Hkn.out]) (by first | exact Kd.C_drew (Kd.C_alloc (C_ints w3 _ rfl [o.s] (by simp)) _) | exact Kd.C_drew (C_ints _ _ (by simp) [o.s] (by simp)) | exact C_ints w3 _ rfl [o.s] (by simp)) (Nat.le_refl _) (Kd.C_nil _ _) (Nat.zero_le _) (fun ad h _ => by cases h; show _ ≠ g; simp; omega) (fun ad h => by cases h) (by repeat (first | exact Below.refl _ _ | apply below_drew | apply below_alloc)) (by rw [Hkn.out]; omega)
      · go_wp2
        go_meet
        case rel => exact rel_mk (N := []) (R := []) (by simp [numsOf, Hkn.out]) (by simp [restOf, Hkn.out]) (Kd.C_nil _ _) (Nat.zero_le _) (Kd.C_nil _ _) (Nat.zero_le _) (fun ad h => by cases h) (fun ad h => by cases h) (by repeat (first | exact Below.refl _ _ | apply below_drew | apply below_alloc)) (by rw [Hkn.out]; omega)
      · go_wp2
        go_meet
        case rel => exact rel_mk (N := []) (R := [o.key]) (by simp [numsOf, Hkn.out]) (by simp [restOf, Hkn.out]) (Kd.C_nil _ _) (Nat.zero_le _) (by first | exact Kd.C_drew (Kd.C_alloc (C_texts w3 _ rfl [o.key] (by simp)) _) | exact Kd.C_drew (C_texts _ _ (by simp) [o.key] (by simp)) | exact C_texts w3 _ rfl [o.key] (by simp)) (Nat.le_refl _) (fun ad h => by cases h) (fun ad h _ => by cases h; show _ ≠ g; simp; omega) (by repeat (first | exact Below.refl _ _ | apply below_drew | apply below_alloc)) (by rw [Hkn.out]; omega)
      · go_wp2
        go_meet
        case rel => exact rel_mk (N := []) (R := [o.key]) (by simp [numsOf, Hkn.out]) (by simp [restOf, Hkn.out]) (Kd.C_nil _ _) (Nat.zero_le _) (by first | exact Kd.C_drew (Kd.C_alloc (C_texts w3 _ rfl [o.key] (by simp)) _) | exact Kd.C_drew (C_texts _ _ (by simp) [o.key] (by simp)) | exact C_texts w3 _ rfl [o.key] (by simp)) (Nat.le_refl _) (fun ad h => by cases h) (fun ad h _ => by cases h; show _ ≠ g; simp; omega) (by repeat (first | exact Below.refl _ _ | apply below_drew | apply below_alloc)) (by rw [Hkn.out]; omega)
      · go_wp2
        go_meet
        case rel => exact rel_mk (N := []) (R := []) (by simp [numsOf, Hkn.out]) (by simp [restOf, Hkn.out]) (Kd.C_nil _ _) (Nat.zero_le _) (Kd.C_nil _ _) (Nat.zero_le _) (fun ad h => by cases h) (fun ad h => by cases h) (by repeat (first | exact Below.refl _ _ | apply below_drew | apply below_alloc)) (by rw [Hkn.out]; omega)
      · go_wp2
        go_meet
        case rel => exact rel_mk (N := [o.n]) (R := []) (by simp [numsOf, Hkn.out]) (by simp [restOf, Hkn.out]) (by first | exact Kd.C_drew (Kd.C_alloc (C_ints w3 _ rfl [o.n] (by simp)) _) | exact Kd.C_drew (C_ints _ _ (by simp) [o.n] (by simp)) | exact C_ints w3 _ rfl [o.n] (by simp)) (Nat.le_refl _) (Kd.C_nil _ _) (Nat.zero_le _) (fun ad h _ => by cases h; show _ ≠ g; simp; omega) (fun ad h => by cases h) (by repeat (first | exact Below.refl _ _ | apply below_drew | apply below_alloc)) (by rw [Hkn.out]; omega)
      · go_wp2
        go_meet
        case rel => exact rel_mk (N := o.mask) (R := []) (by simp [numsOf, Hkn.out]) (by simp [restOf, Hkn.out]) (Kd.C_below Hl.out.m (below_then hb3 hb3.size (by repeat (first | exact Below.refl _ _ | apply below_drew | apply below_alloc)))) Hl.out.mc (Kd.C_nil _ _) (Nat.zero_le _) (Kd.far_C 0 Hl.out.m hgb) (fun ad h => by cases h) (by repeat (first | exact Below.refl _ _ | apply below_drew | apply below_alloc)) (by rw [Hkn.out]; omega)
      · have hP := HP.out
        rw [Hkn.out] at hP
        by_cases hx1 : o.x < 0
        · have d1 : decide (o.x < 0) = true := decide_eq_true hx1
          rw [if_pos ⟨rfl, .inl hx1⟩] at hP
          subst hP
          clear HP hx1
          go_wp2
          go_ret2
          exact ⟨rfl, below_alloc hb3 _⟩
        · have d1 : decide (o.x < 0) = false := decide_eq_false hx1
          by_cases hx2 : 255 < o.x
          · have d2 : decide (255 < o.x) = true := decide_eq_true hx2
            rw [if_pos ⟨rfl, .inr hx2⟩] at hP
            subst hP
            clear HP hx1 hx2
            go_wp2
            go_ret2
            exact ⟨rfl, below_alloc hb3 _⟩
          · have d2 : decide (255 < o.x) = false := decide_eq_false hx2
            have Hx : Hid (¬ (o.kind = 13 ∧ (o.x < 0 ∨ 255 < o.x))) := Lib.hid (fun h => by omega)
            clear hP hx1 hx2
            go_wp2
            go_meet
            case rel => exact rel_mk (N := [o.page, o.at_, o.x]) (R := []) (by simp [numsOf, Hkn.out]) (by simp [restOf, Hkn.out]) (C_ints w3 _ rfl [o.page, o.at_, o.x] (by simp)) (Nat.le_refl _) (Kd.C_nil _ _) (Nat.zero_le _) (fun ad h _ => by cases h; show _ ≠ g; simp; omega) (fun ad h => by cases h) (below_alloc (Below.refl _ _) _) Hx.out
      · go_wp2
        go_meet
        case rel => exact rel_mk (N := []) (R := []) (by simp [numsOf, Hkn.out]) (by simp [restOf, Hkn.out]) (Kd.C_nil _ _) (Nat.zero_le _) (Kd.C_nil _ _) (Nat.zero_le _) (fun ad h => by cases h) (fun ad h => by cases h) (by repeat (first | exact Below.refl _ _ | apply below_drew | apply below_alloc)) (by rw [Hkn.out]; omega)
    case rest =>
      obtain ⟨An, cn, Ar, cr, rfl, rfl, h2, hbc, h13⟩ := hcut
      have hP := HP.out
      rw [if_neg h13] at hP
      have hRc := Kd.R_below hR0 hbc
      have hbw := below_then hb3 hb3.size hbc
      have hnl := nums2_len o hm
      have hrl := rest2_len o hk
      have hkn2 : o.kind.toNat = kn := by omega
      rw [hkn2] at hP
      have H2 := Lib.hid h2
      replace HP := Lib.hid hP
      clear hP h13 h2 hR0 hb3 hz3 r0 hbc hkn2 hkn hk0 hkl Hl hk hm
      obtain ⟨Rs, hRs⟩ : ∃ Rs, restOf o = Rs := ⟨_, rfl⟩
      obtain ⟨N, hN⟩ : ∃ N, numsOf o = N := ⟨_, rfl⟩
      have HN : Hid (Kd.C (Kd.int .i64) wc An N.length N ∧ N.length ≤ cn ∧ Kd.C Kd.string wc Ar Rs.length Rs ∧ Rs.length ≤ cr ∧ (∀ ad, An = some ad → 0 < N.length → ad.block ≠ g) ∧ ∀ ad, Ar = some ad → 0 < Rs.length → ad.block ≠ g) := Lib.hid (by rw [← hN, ← hRs]; exact ⟨H2.out.n, H2.out.nc, H2.out.r, H2.out.rc, H2.out.fn, H2.out.fr⟩)
      rw [hRs] at HP hrl ⊢
      rw [hN] at HP hnl ⊢
      clear hN hRs H2
      go_wp2_with fail
      go_loopw [4, 7] (fun v i wr => ∃ (q : Nat) (acc : List ByteArray), q ≤ N.length ∧ i = .int .i64 q ∧ Kd.R Kd.string 9 wr w.heap.size (fun _ => True) v acc ∧ Below w.heap.size w wr ∧ KeepBut wc wr g none ∧ AtB wc g v ∧ acc.length ≤ 1 + q ∧ Aside0 (maskW N [wordAt kn] = maskW (N.drop q) acc)) (fun _ i _ => N.length - (intOf i).toNat)
      case atStart => exact ⟨0, _, Nat.zero_le _, rfl, hRc, hbw, KeepBut.refl _ _ _, .inl rfl, by simp, ⟨by rw [List.drop_zero]⟩⟩
      case round =>
        clear hRc hbw
        obtain ⟨q, acc, hql, rfl, hRa, hbr, hkp, hat, hlen, hq⟩ := hrel
        obtain ⟨Aa, ca, ea⟩ := Kd.R_slice hRa
        subst ea
        have Hat := Lib.hid hat
        have Hkp := Lib.hid hkp
        clear hat hkp
        by_cases hlq : q < N.length
        · have hCi := Kd.C_keep 0 HN.out.1 Hkp.out HN.out.2.2.2.2.1
          obtain ⟨adw, ew, c0⟩ := Kd.at_int hCi q (by omega) (by omega)
          obtain ⟨v, hv⟩ : ∃ v, N[q] = v := ⟨_, rfl⟩
          have hrd : rd N (q : Int) = v := by rw [← hv]; simp [rd, List.getD_eq_getElem?_getD, List.getElem?_eq_getElem hlq]
          rw [hrd] at c0
          simp only [Int.toNat_natCast] at c0
          have hsn := hq.out
          rw [List.drop_eq_getElem_cons hlq, maskW, hv] at hsn
          obtain ⟨fb, hfb⟩ : ∃ fb, fitsB 77 v = fb := ⟨_, rfl⟩
          rw [hfb] at hsn
          have hit := fun W (hf : fb = true) => cachepotref3_Digits.calls 30 v (itoaB v) W (Digits_f v (by have := fits_range 77 v (hfb.trans hf); omega) (by have := fits_range 77 v (hfb.trans hf); omega))
          have hft := fun W => cachepotref3_bound.calls v fb W (by rw [bound_f, hfb])
          have Hsn := Lib.hid hsn
          clear hsn hq hv hrd hfb hCi
          subst ew
          go_wp2_with fail
          refine (hft _).mono ?_
          rintro e w4 ⟨rfl, hd⟩
          have hR4 := Kd.R_below hRa hd.below
          have hb4 := below_then hbr hbr.size hd.below
          have Hk4 := Lib.hid (keep_below Hkp.out hd.below)
          have c04 := (hd.below.cell (World.block_lt_of_cell? wr _ c0)).trans c0
          clear hft hd c0 hbr hRa Hkp
          cases fb
          · have hqs := HP.out
            rw [Hsn.out, if_neg (by decide)] at hqs
            have hqs2 : P = none := hqs
            subst hqs2
            clear HP hit hqs Hsn
            go_wp2
            go_ret2
            exact ⟨rfl, hb4⟩
          · have hsn := Hsn.out
            rw [if_pos rfl] at hsn
            have Hs2 := Lib.hid hsn
            have hit2 := hit w4 rfl
            clear hsn Hsn hit
            go_wp2_with fail
            refine hit2.mono ?_
            rintro e w5 ⟨rfl, hb⟩
            have hR5 := Kd.R_below hR4 hb
            have hb5 := below_then hb4 hb4.size hb
            have Hk5 := Lib.hid (keep_below Hk4.out hb)
            have hlen1 : (acc.length + 1) * 16 ≤ 140737488355328 := by omega
            clear hit2 hb hR4 hb4 c04 Hk4
            go_wp2_with (at_builtin; refine Kd.R_append Kd.string (w0 := w) w.heap.size rfl (.tmp 98) (.tmp 104) 22 9 (.string ⟨#[]⟩) 16 rfl Tryd.underlying22 info9 rfl (by decide) (by decide) (.slice Aa acc.length ca) acc (itoaB v) [.string (itoaB v)] (fun _ => True) (fun _ => False) rfl (by first | (go_simp; done) | (go_simp; rfl)) rfl (fun _ hk => hk.elim) (fun _ _ => trivial) hR5 hb5 hb5.size hlen1 ?_)
            intro v1 w6 hR6 hb6 hg6 hat6
            have Hk6 := Lib.hid (keep_step Hk5.out hg6 Hat.out)
            have Hat6 := Lib.hid (Hat.out.step Hk5.out.1 hat6)
            clear hg6 hat6 hlen1 hR5 hb5 Hk5 Hat
            go_wp2
            go_roundw
            case rel => exact ⟨q + 1, acc ++ [itoaB v], hlq, by simp, hR6, hb6, Hk6.out, Hat6.out, by rw [List.length_append]; simp; omega, ⟨Hs2.out⟩⟩
            case measure => simp [intOf]; omega
        · have hqe : q = N.length := by omega
          subst hqe
          have hsn := hq.out
          rw [List.drop_eq_nil_of_le (Nat.le_refl _), maskW] at hsn
          have hqs := HP.out
          rw [hsn] at hqs
          obtain ⟨L, hL⟩ : ∃ L, acc ++ Rs = L := ⟨_, rfl⟩
          have hqs2 : P = some L := by rw [← hL]; exact hqs
          subst hqs2
          have hJ := HJ.out _ rfl
          have hC := Kd.C_keep ByteArray.empty HN.out.2.2.1 Hkp.out HN.out.2.2.2.2.2
          have hKM : ∀ (x : ByteArray) (cs : List Value), Kd.string.K wr x cs → Kd.string.M wr w.heap.size (fun _ => False) x cs := fun x cs h => h
          have hlen2 : (acc.length + Rs.length) * 16 ≤ 140737488355328 := by omega
          have hjoin := fun W (A : Option Addr) (c : Nat) (hC : Kd.C Kd.string W A L.length L) (hc : L.length ≤ c) => Wd.cachepotref3_Join.calls 2000000 A c L (lineOf L) W hC hc (Wd.rJoin_f L hJ.n hJ.s 2000000 (by have := hJ.n; omega))
          have HL := Lib.hid hL
          clear hqs hsn HP hq hJ HJ hL
          go_wp2_with (at_builtin; refine Kd.R_append_rows Kd.string (Rr := Kd.string.K wr) (w0 := w) w.heap.size rfl (.tmp 106) (.tmp 107) 22 9 (.string ⟨#[]⟩) 16 rfl Tryd.underlying22 info9 rfl (by decide) (by decide) (.slice Aa acc.length ca) acc Rs Ar Rs.length cr (fun _ => True) (fun _ => False) rfl rfl hRa hC hKM (fun _ h => h.elim) (fun _ _ => trivial) hbr hbr.size hlen2 ?_)
          intro v1 w6 hR6 hb6 hg6 hat6
          rw [HL.out] at hR6
          obtain ⟨A1, c1, e1⟩ := Kd.R_slice hR6
          subst e1
          have hRd := Kd.R_reads' hR6
          have hj6 := hjoin w6 A1 c1 hRd.2.2 hRd.2.1
          clear hg6 hat6 hR6 hRd hjoin hC hKM hlen2 hRa hbr
          go_wp2_with fail
          refine hj6.mono ?_
          rintro e w7 ⟨rfl, hb7⟩
          have hb8 := below_then hb6 hb6.size hb7
          clear hb6 hb7 hj6
          go_wp2
          go_ret2
          exact ⟨rfl, hb8⟩
end Go.Proofs.YtfaelejeihmgcaaDoor.Stp
end

section
namespace Go.Proofs.YtfaelejeihmgcaaDoor.Stp
open Go.RowKit Go.Proofs.YtfaelejeihmgcaaDoorW.PrintWords Go.Proofs.YtfaelejeihmgcaaDoorW.PrintLast Go.Proofs.YtfaelejeihmgcaaDoorW.PrintMore
attribute [local go_sem] max2_int min2_int max_two min_two max_three min_three max_four min_four
theorem short_same (s : ByteArray) (n : Nat) (hn : n ≤ 1000) (w : World) : Calls Tryd.prog 27 #[.string s, .int .i64 n] w fun e w' => e = .returned (.string (Wd.cut s n)) ∧ w' = w := by
  by_cases h : n < s.size
  · have hcut : Wd.cut s n = s.extract 0 n := by unfold Wd.cut; rw [Nat.min_eq_right (by omega)]
    rw [hcut]
    clear hcut
    go_enter Tryd.func27, Tryd.ntmps27
    go_wp2
    go_ret
    exact ⟨rfl, rfl⟩
  · have hcut : Wd.cut s n = s := by unfold Wd.cut; rw [Nat.min_eq_left (by omega)]; exact Wd.ex_all s
    rw [hcut]
    clear hcut
    go_enter Tryd.func27, Tryd.ntmps27
    go_wp2
    go_ret
    exact ⟨rfl, rfl⟩
theorem slice_head56 (A : Option Addr) (n c j : Nat) (hj : j ≤ c) (W : World) : (Instr.slice 56 (.slice A n c) none (some (.int .i64 (j : Int))) none).run Tryd.prog W = .ok (.slice A j c) W := by
  rw [run_slice_h W 56 A n c (by kernel_rfl) .i64 (j : Int) (by omega) (by omega)]
  go_simp
set_option maxHeartbeats 1000000 in
set_option maxRecDepth 100000 in
theorem Ints_walk (A : Option Addr) (c : Nat) (l : List Int) (w : World) (hC : Kd.C (Kd.int .i64) w A l.length l) (hc : l.length ≤ c) :
    Calls Tryd.prog 85 #[.slice A l.length c, .int .i64 6] w fun e w' => ∃ v, e = .returned v ∧ Kd.R (Kd.int .i64) 3 w' w.heap.size (fun _ => True) v (l.take 6) ∧ Below w.heap.size w w' := by
  have hmax := Kd.C_max hC
  have hKM : ∀ (x : Int) (cs : List Value), (Kd.int .i64).K w x cs → (Kd.int .i64).M w w.heap.size (fun _ => False) x cs := fun x cs h => h
  obtain ⟨m, hm⟩ : ∃ m, l.length = m := ⟨_, rfl⟩
  by_cases h : 6 < m
  · have hCt := Kd.C_take (m := 6) hC (by omega)
    rw [show (l.take 6).length = 6 by rw [List.length_take]; omega] at hCt
    have hlen : (([] : List Int).length + 6) * 8 ≤ 140737488355328 := by decide
    have hsl := fun W => slice_head56 A m c 6 (by omega) W
    rw [hm] at hC hc hmax ⊢
    have d1 : decide (6 < m) = true := decide_eq_true h
    have HC := Lib.hid hCt
    clear hm hC hCt
    go_enter Tryd.func85, Tryd.ntmps85
    go_wp2_with (at_builtin; refine Kd.R_append_rows (Kd.int .i64) (Rr := (Kd.int .i64).K w) (w0 := w) w.heap.size rfl (.const (.slice none 0 0)) (.tmp 10) 56 3 (.int .i64 0) 8 rfl Tryd.underlying56 info3 rfl (by decide) (by decide) nilV [] (l.take 6) A 6 c (fun _ => True) (fun _ => False) rfl rfl (Kd.R_nil _ _ _ _ _) HC.out hKM (fun _ h => h.elim) (fun _ _ => trivial) (Below.refl _ _) (Nat.le_refl _) hlen ?_)
    intro v1 w1 hR1 hb1 _ _
    go_wp2
    go_ret
    exact ⟨v1, rfl, hR1, hb1⟩
  · have ht : l.take 6 = l := List.take_of_length_le (by omega)
    rw [ht]
    have hlen : (([] : List Int).length + l.length) * 8 ≤ 140737488355328 := by simp only [List.length_nil]; omega
    have hsl := fun W => slice_head56 A m c m (by omega) W
    rw [hm] at hC hc hmax hlen ⊢
    have d1 : decide (6 < m) = false := decide_eq_false h
    have HC := Lib.hid hC
    clear hm hC ht
    go_enter Tryd.func85, Tryd.ntmps85
    go_wp2_with (at_builtin; refine Kd.R_append_rows (Kd.int .i64) (Rr := (Kd.int .i64).K w) (w0 := w) w.heap.size rfl (.const (.slice none 0 0)) (.tmp 10) 56 3 (.int .i64 0) 8 rfl Tryd.underlying56 info3 rfl (by decide) (by decide) nilV [] l A m c (fun _ => True) (fun _ => False) rfl rfl (Kd.R_nil _ _ _ _ _) HC.out hKM (fun _ h => h.elim) (fun _ _ => trivial) (Below.refl _ _) (Nat.le_refl _) hlen ?_)
    intro v1 w1 hR1 hb1 _ _
    go_wp2
    go_ret
    exact ⟨v1, rfl, hR1, hb1⟩
def pickI (a m : Int) : Int := if Int.tmod a m < 0 then Int.tmod a m + m else Int.tmod a m
theorem pickI_in (a m : Int) (hm : 0 < m) : 0 ≤ pickI a m ∧ pickI a m < m := by
  have hb : Int.tmod a m < m ∧ -m < Int.tmod a m := ⟨Int.tmod_lt_of_pos a hm, Int.lt_tmod_of_pos a hm⟩
  unfold pickI
  split <;> omega
theorem pick16 (a : Int) (w : World) : Calls Tryd.prog 25 #[.int .i64 a, .int .i64 16] w fun e w' => e = .returned (.int .i64 (pickI a 16)) ∧ w' = w := by
  have hb : Int.tmod a 16 < 16 ∧ -16 < Int.tmod a 16 := ⟨Int.tmod_lt_of_pos a (by decide), Int.lt_tmod_of_pos a (by decide)⟩
  unfold pickI
  obtain ⟨t, ht⟩ : ∃ t, Int.tmod a 16 = t := ⟨_, rfl⟩
  rw [ht] at hb ⊢
  obtain ⟨h1, h2⟩ := hb
  by_cases h : t < 0
  · have d1 : decide (t < 0) = true := decide_eq_true h
    rw [if_pos h]
    go_enter Tryd.func25, Tryd.ntmps25
    go_wp2
    go_ret
    exact ⟨rfl, rfl⟩
  · have d1 : decide (t < 0) = false := decide_eq_false h
    rw [if_neg h]
    go_enter Tryd.func25, Tryd.ntmps25
    go_wp2
    go_ret
    exact ⟨rfl, rfl⟩
theorem pick258 (a : Int) (w : World) : Calls Tryd.prog 25 #[.int .i64 a, .int .i64 258] w fun e w' => e = .returned (.int .i64 (pickI a 258)) ∧ w' = w := by
  have hb : Int.tmod a 258 < 258 ∧ -258 < Int.tmod a 258 := ⟨Int.tmod_lt_of_pos a (by decide), Int.lt_tmod_of_pos a (by decide)⟩
  unfold pickI
  obtain ⟨t, ht⟩ : ∃ t, Int.tmod a 258 = t := ⟨_, rfl⟩
  rw [ht] at hb ⊢
  obtain ⟨h1, h2⟩ := hb
  by_cases h : t < 0
  · have d1 : decide (t < 0) = true := decide_eq_true h
    rw [if_pos h]
    go_enter Tryd.func25, Tryd.ntmps25
    go_wp2
    go_ret
    exact ⟨rfl, rfl⟩
  · have d1 : decide (t < 0) = false := decide_eq_false h
    rw [if_neg h]
    go_enter Tryd.func25, Tryd.ntmps25
    go_wp2
    go_ret
    exact ⟨rfl, rfl⟩
end Go.Proofs.YtfaelejeihmgcaaDoor.Stp
end

section
set_option linter.unusedSimpArgs false
namespace Go.Proofs.YtfaelejeihmgcaaDoor.Stp
open Go.RowKit Go.Proofs.YtfaelejeihmgcaaDoorW.PrintWords Go.Proofs.YtfaelejeihmgcaaDoorW.PrintLast
theorem texts_l0_eq : ∀ (k : Nat) (x0 : List ByteArray) (x1 x2 : Int) (x7 : List ByteArray) (x8 : Int), cachepotbook_Texts.l0 k x0 x1 x2 x7 x8 = Wd.cachepotbook_Texts.l0 k x0 x1 x2 x7 x8
  | 0, _, _, _, _, _ => rfl
  | k + 1, x0, x1, x2, x7, x8 => by
    rw [cachepotbook_Texts.l0, Wd.cachepotbook_Texts.l0]
    simp only [texts_l0_eq k]
    rfl
theorem texts_val (l : List ByteArray) : cachepotbook_Texts.f 100 l 6 20 = some (Wd.textsL l 6 20) := (texts_l0_eq 100 l 6 20 [] 0).trans (Wd.texts_f l 6 20 100 (by decide) (by decide))
theorem rel_two {o : OpV} {w w2 w6 : World} {Ak Am : Option Addr} {ck cm tn mn : Nat} {A5 A6 : Option Addr} {c5 c6 : Nat} {tl : List ByteArray} {ml : List Int} (hl2 : w.heap.size + 1 < w2.heap.size) (_ : w.heap.size ≤ w2.heap.size)
    (hz2 : w2.heap[w.heap.size]? = some (.cells #[.int .i64 o.kind, .int .i64 o.s, .string (Wd.cut o.key 40), .string (Wd.cut o.val 60), .slice Ak o.keys.length ck, .int .i64 o.n, .slice Am o.mask.length cm, .int .i64 o.page, .int .i64 o.at_, .int .i64 o.x] 61))
    (hy2 : w2.heap[w.heap.size + 1]? = some (.cells #[.int .i64 0, .int .i64 0, .string ⟨#[]⟩, .string ⟨#[]⟩, .slice none 0 0, .int .i64 0, .slice none 0 0, .int .i64 0, .int .i64 0, .int .i64 0] 61)) (hb2 : Below w.heap.size w w2) (hR5 : Kd.R Kd.string 9 w6 w2.heap.size (fun _ => True) (.slice A5 tn c5) tl) (hR6 : Kd.R (Kd.int .i64) 3 w6 w2.heap.size (fun _ => True) (.slice A6 mn c6) ml) (hb6 : Below w2.heap.size w2 w6) :
    ∃ A c B d, ((w6.setCell ⟨w.heap.size, 4, none⟩ (.slice A5 tn c5)).setCell ⟨w.heap.size, 6, none⟩ (.slice A6 mn c6)).heap[w.heap.size]? = some (.cells #[.int .i64 o.kind, .int .i64 o.s, .string (Wd.cut o.key 40), .string (Wd.cut o.val 60), .slice A tn c, .int .i64 o.n, .slice B mn d, .int .i64 o.page, .int .i64 o.at_, .int .i64 o.x] 61) ∧ ((w6.setCell ⟨w.heap.size, 4, none⟩ (.slice A5 tn c5)).setCell ⟨w.heap.size, 6, none⟩ (.slice A6 mn c6)).heap[w.heap.size + 1]? = some (.cells #[.int .i64 0, .int .i64 0, .string ⟨#[]⟩, .string ⟨#[]⟩, .slice none 0 0, .int .i64 0, .slice none 0 0, .int .i64 0, .int .i64 0, .int .i64 0] 61) ∧
      Kd.R Kd.string 9 ((w6.setCell ⟨w.heap.size, 4, none⟩ (.slice A5 tn c5)).setCell ⟨w.heap.size, 6, none⟩ (.slice A6 mn c6)) (w.heap.size + 2) (fun _ => True) (.slice A tn c) tl ∧ Kd.R (Kd.int .i64) 3 ((w6.setCell ⟨w.heap.size, 4, none⟩ (.slice A5 tn c5)).setCell ⟨w.heap.size, 6, none⟩ (.slice A6 mn c6)) (w.heap.size + 2) (fun _ => True) (.slice B mn d) ml ∧ Below w.heap.size w ((w6.setCell ⟨w.heap.size, 4, none⟩ (.slice A5 tn c5)).setCell ⟨w.heap.size, 6, none⟩ (.slice A6 mn c6)) := by
  have hz6 := (hb6.block w.heap.size (by omega)).trans hz2
  have hy6 := (hb6.block (w.heap.size + 1) (by omega)).trans hy2
  have hb := below_then hb2 hb2.size hb6
  refine ⟨A5, c5, A6, c6, set_heap (set_heap hz6 4 _) 6 _, (Below.heap_setCell _ ⟨w.heap.size, 6, none⟩ _ _ (by simp)).trans ((Below.heap_setCell _ ⟨w.heap.size, 4, none⟩ _ _ (by simp)).trans hy6), ?_, ?_, (hb.setCell (p := ⟨w.heap.size, 4, none⟩) (Nat.le_refl _) _).setCell (p := ⟨w.heap.size, 6, none⟩) (Nat.le_refl _) _⟩
  · refine Kd.R_lower (Kd.R_mono (Kd.R_far (p := ⟨w.heap.size, 6, none⟩) (ok := fun k => k ≠ w.heap.size) (Kd.R_far (p := ⟨w.heap.size, 4, none⟩) (Kd.R_mono (ok' := fun k => k ≠ w.heap.size) (Kd.R_bound hR5) (fun k hk => by have := hk.2.1; omega)) (fun k hk => hk) _) (fun k hk => hk) _) (fun _ _ => trivial)) (by omega)
  · refine Kd.R_lower (Kd.R_mono (Kd.R_far (p := ⟨w.heap.size, 6, none⟩) (ok := fun k => k ≠ w.heap.size) (Kd.R_far (p := ⟨w.heap.size, 4, none⟩) (Kd.R_mono (ok' := fun k => k ≠ w.heap.size) (Kd.R_bound hR6) (fun k hk => by have := hk.2.1; omega)) (fun k hk => hk) _) (fun k hk => hk) _) (fun _ _ => trivial)) (by omega)
def shortT (o : OpV) (near : Bool) : OpV :=
  if near = true then ⟨pickI o.kind 16, Int.tmod o.s 1000003, Wd.cut o.key 40, Wd.cut o.val 60, Wd.textsL o.keys 6 20, Int.tmod o.n 1000003, (o.mask.take 6).map (fun v => Int.tmod v 1000002), Int.tmod o.page 1000003, Int.tmod o.at_ 2000, pickI o.x 258 - 1⟩
  else { o with key := Wd.cut o.key 40, val := Wd.cut o.val 60, keys := Wd.textsL o.keys 6 20, mask := o.mask.take 6 }
/-- what stands behind a shortening: the step's lists are new memory -/
def Shorted (w : World) (o : OpV) (e : Ending) (w' : World) : Prop :=
  ∃ A c B d, e = .returned (.agg #[.int .i64 o.kind, .int .i64 o.s, .string o.key, .string o.val, .slice A o.keys.length c, .int .i64 o.n, .slice B o.mask.length d, .int .i64 o.page, .int .i64 o.at_, .int .i64 o.x]) ∧ Kd.R Kd.string 9 w' w.heap.size (fun _ => True) (.slice A o.keys.length c) o.keys ∧ Kd.R (Kd.int .i64) 3 w' w.heap.size (fun _ => True) (.slice B o.mask.length d) o.mask ∧ Below w.heap.size w w'
theorem shorted_mk {w w9 : World} {o' : OpV} {tl : List ByteArray} {ml : List Int} {tn mn : Nat} {A B : Option Addr} {c d : Nat} {kind s n page at_ x : Int} {key val : ByteArray} (hk : o'.keys = tl) (hn : o'.keys.length = tn) (hm : o'.mask = ml) (hmn : o'.mask.length = mn)
    (h1 : Kd.R Kd.string 9 w9 w.heap.size (fun _ => True) (.slice A tn c) tl) (h2 : Kd.R (Kd.int .i64) 3 w9 w.heap.size (fun _ => True) (.slice B mn d) ml) (hb : Below w.heap.size w w9)
    (e0 : o'.kind = kind := by rfl) (e1 : o'.s = s := by rfl) (e2 : o'.key = key := by rfl) (e3 : o'.val = val := by rfl) (e5 : o'.n = n := by rfl) (e7 : o'.page = page := by rfl) (e8 : o'.at_ = at_ := by rfl) (e9 : o'.x = x := by rfl) :
    Shorted w o' (.returned (.agg #[.int .i64 kind, .int .i64 s, .string key, .string val, .slice A tn c, .int .i64 n, .slice B mn d, .int .i64 page, .int .i64 at_, .int .i64 x])) w9 := by
  subst e0 e1 e2 e3 e5 e7 e8 e9 hk hm hn hmn
  exact ⟨A, c, B, d, rfl, h1, h2, hb⟩
theorem R_up {α : Type} {k : Kd α} {e g : Nat} {W W1 : World} {v : Value} {xs : List α} (h : Kd.R k e W (g + 2) (fun _ => True) v xs) (hg : W.grownBy W1 (some g)) : Kd.R k e W1 (g + 2) (fun _ => True) v xs :=
  Kd.R_mono (Kd.R_grown (Kd.R_mono (ok' := fun q => g + 2 ≤ q) (Kd.R_bound h) (fun q hq => hq.2.1)) hg (fun q hq e => by have := Option.some.inj e; omega)) (fun _ _ => trivial)
theorem set_step (ml : List Int) (q : Nat) (h : q < ml.length) : ((ml.take q).map (fun v => Int.tmod v 1000002) ++ ml.drop q).set q (Int.tmod ml[q] 1000002) = (ml.take (q + 1)).map (fun v => Int.tmod v 1000002) ++ ml.drop (q + 1) := by
  have hl : ((ml.take q).map (fun v => Int.tmod v 1000002)).length = q := by rw [List.length_map, List.length_take]; omega
  rw [List.set_append_right _ _ (by omega), hl, Nat.sub_self, List.drop_eq_getElem_cons h, List.set_cons_zero, List.take_succ_eq_append_getElem h, List.map_append, List.append_assoc]
  rfl
theorem short40 (s : ByteArray) (w : World) : Calls Tryd.prog 27 #[.string s, .int .i64 40] w fun e w' => e = .returned (.string (Wd.cut s 40)) ∧ w' = w := short_same s 40 (by decide) w
theorem short60 (s : ByteArray) (w : World) : Calls Tryd.prog 27 #[.string s, .int .i64 60] w fun e w' => e = .returned (.string (Wd.cut s 60)) ∧ w' = w := short_same s 60 (by decide) w
set_option maxHeartbeats 16000000 in
set_option maxRecDepth 100000 in
theorem short_walk (o : OpV) (Ak : Option Addr) (ck : Nat) (Am : Option Addr) (cm : Nat) (near : Bool) (w : World) (hl : OpL w o Ak ck Am cm) :
    Calls Tryd.prog 46 #[.agg #[.int .i64 o.kind, .int .i64 o.s, .string o.key, .string o.val, .slice Ak o.keys.length ck, .int .i64 o.n, .slice Am o.mask.length cm, .int .i64 o.page, .int .i64 o.at_, .int .i64 o.x], .bool near] w (Shorted w (shortT o near)) := by
  have Hl := Lib.hid hl
  obtain ⟨O1, hO1⟩ : ∃ O1, opO o Ak ck Am cm = O1 := ⟨_, rfl⟩
  obtain ⟨O2, hO2⟩ : ∃ O2, opO (zeroOp 0) none 0 none 0 = O2 := ⟨_, rfl⟩
  have hlt1 : w.heap.size + 1 < ((w.alloc O1).alloc O2).heap.size := by simp
  have hz1 : ((w.alloc O1).alloc O2).heap[w.heap.size]? = some (.cells #[.int .i64 o.kind, .int .i64 o.s, .string o.key, .string o.val, .slice Ak o.keys.length ck, .int .i64 o.n, .slice Am o.mask.length cm, .int .i64 o.page, .int .i64 o.at_, .int .i64 o.x] 61) :=
    (Lib.alloc_old _ O2 _ (by simp)).trans ((heap_alloc_new w O1).trans (by rw [← hO1]; rfl))
  have hy1 : ((w.alloc O1).alloc O2).heap[w.heap.size + 1]? = some (.cells #[.int .i64 0, .int .i64 0, .string ⟨#[]⟩, .string ⟨#[]⟩, .slice none 0 0, .int .i64 0, .slice none 0 0, .int .i64 0, .int .i64 0, .int .i64 0] 61) := by
    have h := heap_alloc_new (w.alloc O1) O2
    rw [show (w.alloc O1).heap.size = w.heap.size + 1 by simp] at h
    rw [h, ← hO2]
    rfl
  have hb1 := below_alloc (below_alloc (Below.refl _ w) O1) O2
  clear hl
  go_enter Tryd.func46, Tryd.ntmps46
  go_upto_region 1 with (fail)
  change Code.wp _ _ _ _ ((w.alloc (opO o Ak ck Am cm)).alloc (opO (zeroOp 0) none 0 none 0))
  rw [hO1, hO2]
  clear hO1 hO2
  generalize (w.alloc O1).alloc O2 = w1 at hz1 hy1 hb1 hlt1 ⊢
  go_cut [] (fun wc => wc.heap[w.heap.size]? = some (.cells #[.int .i64 o.kind, .int .i64 o.s, .string (Wd.cut o.key 40), .string (Wd.cut o.val 60), .slice Ak o.keys.length ck, .int .i64 o.n, .slice Am o.mask.length cm, .int .i64 o.page, .int .i64 o.at_, .int .i64 o.x] 61) ∧ wc.heap[w.heap.size + 1]? = some (.cells #[.int .i64 0, .int .i64 0, .string ⟨#[]⟩, .string ⟨#[]⟩, .slice none 0 0, .int .i64 0, .slice none 0 0, .int .i64 0, .int .i64 0, .int .i64 0] 61) ∧ Below w.heap.size w wc)
  case first =>
    have r2 : w1.cell? ⟨w.heap.size, 2, none⟩ = some (.string o.key) := Lib.cell_of_heap hz1 2
    have r3 : w1.cell? ⟨w.heap.size, 3, none⟩ = some (.string o.val) := Lib.cell_of_heap hz1 3
    have f2 : w1.frozen? ⟨w.heap.size, 2, none⟩ = false := Lib.frozen_of_heap hz1 2
    have f3 : w1.frozen? ⟨w.heap.size, 3, none⟩ = false := Lib.frozen_of_heap hz1 3
    go_wp2_with fail
    go_region_with ((first | ((with_reducible refine (short40 _ _).mono ?_); rintro e w' ⟨rfl, rfl⟩) | ((with_reducible refine (short60 _ _).mono ?_); rintro e w' ⟨rfl, rfl⟩)))
    all_goals (
      go_wp2_with fail
      go_meet
      case rel => exact ⟨set_heap (set_heap hz1 2 _) 3 _, (Below.heap_setCell _ ⟨w.heap.size, 3, none⟩ _ _ (by simp)).trans ((Below.heap_setCell _ ⟨w.heap.size, 2, none⟩ _ _ (by simp)).trans hy1), below_drew ((hb1.setCell (p := ⟨w.heap.size, 2, none⟩) (Nat.le_refl _) (.string (Wd.cut o.key 40))).setCell (p := ⟨w.heap.size, 3, none⟩) (Nat.le_refl _) (.string (Wd.cut o.val 60)))⟩)
  case rest =>
    obtain ⟨hz2, hy2, hb2⟩ := hcut
    clear hz1 hy1 hb1 hlt1
    generalize wc = w2 at hz2 hy2 hb2 ⊢
    go_upto_region 2 with (fail)
    have zz : ∀ W, Below w2.heap.size w2 W → W.cell? ⟨w.heap.size, 4, none⟩ = some (.slice Ak o.keys.length ck) ∧ W.cell? ⟨w.heap.size, 6, none⟩ = some (.slice Am o.mask.length cm) ∧ W.frozen? ⟨w.heap.size, 4, none⟩ = false ∧ W.frozen? ⟨w.heap.size, 6, none⟩ = false := fun W hW => by
      have h := (hW.block w.heap.size (blk_lt hz2)).trans hz2
      exact ⟨Lib.cell_of_heap h 4, Lib.cell_of_heap h 6, Lib.frozen_of_heap h 4, Lib.frozen_of_heap h 6⟩
    have tx : ∀ W, Below w2.heap.size w2 W → Calls Tryd.prog 24 #[.slice Ak o.keys.length ck, .int .i64 6, .int .i64 20] W fun e w' => ∃ A c, e = .returned (.slice A (Wd.textsL o.keys 6 20).length c) ∧ Kd.R Kd.string 9 w' w2.heap.size (fun _ => True) (.slice A (Wd.textsL o.keys 6 20).length c) (Wd.textsL o.keys 6 20) ∧ Below w2.heap.size w2 w' ∧ Below W.heap.size W w' := fun W hW =>
      (cachepotbook_Texts.calls 100 Ak ck o.keys 6 20 (Wd.textsL o.keys 6 20) W (Kd.C_below (Kd.C_below Hl.out.k hb2) hW) Hl.out.kc (texts_val _)).mono fun e w' ⟨v, he, hR, hb⟩ => by
        obtain ⟨A, c, ev⟩ := Kd.R_slice hR
        subst ev
        exact ⟨A, c, he, Kd.R_lower hR hW.size, below_then hW hW.size hb, hb⟩
    have it : ∀ W, Below w2.heap.size w2 W → Calls Tryd.prog 85 #[.slice Am o.mask.length cm, .int .i64 6] W fun e w' => ∃ A c, e = .returned (.slice A (o.mask.take 6).length c) ∧ Kd.R (Kd.int .i64) 3 w' w2.heap.size (fun _ => True) (.slice A (o.mask.take 6).length c) (o.mask.take 6) ∧ Below w2.heap.size w2 w' ∧ Below W.heap.size W w' := fun W hW =>
      (Ints_walk Am cm o.mask W (Kd.C_below (Kd.C_below Hl.out.m hb2) hW) Hl.out.mc).mono fun e w' ⟨v, he, hR, hb⟩ => by
        obtain ⟨A, c, ev⟩ := Kd.R_slice hR
        subst ev
        exact ⟨A, c, he, Kd.R_lower hR hW.size, below_then hW hW.size hb, hb⟩
    obtain ⟨tl, htl⟩ : ∃ tl, Wd.textsL o.keys 6 20 = tl := ⟨_, rfl⟩
    obtain ⟨ml, hml⟩ : ∃ ml, o.mask.take 6 = ml := ⟨_, rfl⟩
    obtain ⟨tn, htn⟩ : ∃ tn, tl.length = tn := ⟨_, rfl⟩
    obtain ⟨mn, hmn⟩ : ∃ mn, ml.length = mn := ⟨_, rfl⟩
    rw [htl, htn] at tx
    rw [hml, hmn] at it
    have Htl := Lib.hid htl
    have Hml := Lib.hid hml
    have Htn := Lib.hid htn
    have Hmn := Lib.hid hmn
    clear htl hml htn hmn
    go_wp2_with fail
    have hl2 : w.heap.size + 1 < w2.heap.size := blk_lt hy2
    go_cut [] (fun wd => ∃ A c B d, wd.heap[w.heap.size]? = some (.cells #[.int .i64 o.kind, .int .i64 o.s, .string (Wd.cut o.key 40), .string (Wd.cut o.val 60), .slice A tn c, .int .i64 o.n, .slice B mn d, .int .i64 o.page, .int .i64 o.at_, .int .i64 o.x] 61) ∧ wd.heap[w.heap.size + 1]? = some (.cells #[.int .i64 0, .int .i64 0, .string ⟨#[]⟩, .string ⟨#[]⟩, .slice none 0 0, .int .i64 0, .slice none 0 0, .int .i64 0, .int .i64 0, .int .i64 0] 61) ∧ Kd.R Kd.string 9 wd (w.heap.size + 2) (fun _ => True) (.slice A tn c) tl ∧ Kd.R (Kd.int .i64) 3 wd (w.heap.size + 2) (fun _ => True) (.slice B mn d) ml ∧ Below w.heap.size w wd)
    case first =>
      obtain ⟨z4, z6, y4, y6⟩ := zz w2 (Below.refl _ _)
      go_wp2_with fail
      go_region_with ((first | ((with_reducible refine (tx _ (by repeat (first | assumption | exact Below.refl _ _ | apply below_drew | apply below_alloc))).mono ?_); rintro e w5 ⟨A5, c5, rfl, hR5, hb5, hc5⟩; obtain ⟨z45, z65, y45, y65⟩ := zz w5 hb5) | ((with_reducible refine (it _ (by repeat (first | assumption | exact Below.refl _ _ | apply below_drew | apply below_alloc))).mono ?_); rintro e w6 ⟨A6, c6, rfl, hR6, hb6, hc6⟩; obtain ⟨z46, z66, y46, y66⟩ := zz w6 hb6)))
      all_goals (
        go_wp2_with fail
        go_meet
        case rel => exact rel_two hl2 (hb2.size) hz2 hy2 hb2 (Kd.R_below hR5 hc6) hR6 hb6)
    case rest =>
      obtain ⟨A, c, Bm, d, hz3, hy3, hRk, hRm, hb3⟩ := hcut
      generalize wc = w3 at hz3 hy3 hRk hRm hb3 ⊢
      clear hz2 hy2 hb2 zz tx it hl2
      cases near
      · obtain ⟨r0, r1, r2, r3, r4, r5, r6, r7, r8, r9⟩ := cells10 hz3
        obtain ⟨s0, s1, s2, s3, s4, s5, s6, s7, s8, s9⟩ := cells10 hy3
        obtain ⟨sf0, sf1, sf2, sf3, sf4, sf5, sf6, sf7, sf8, sf9⟩ := frozen10 hy3
        go_wp2
        clear r0 r1 r2 r3 r4 r5 r6 r7 r8 r9 s0 s1 s2 s3 s4 s5 s6 s7 s8 s9 sf0 sf1 sf2 sf3 sf4 sf5 sf6 sf7 sf8 sf9
        have hz9 := put10 hy3 (.int .i64 o.kind) (.int .i64 o.s) (.string (Wd.cut o.key 40)) (.string (Wd.cut o.val 60)) (.slice A tn c) (.int .i64 o.n) (.slice Bm mn d) (.int .i64 o.page) (.int .i64 o.at_) (.int .i64 o.x)
        have hg9 := grown10 w3 (w.heap.size + 1) (.int .i64 o.kind) (.int .i64 o.s) (.string (Wd.cut o.key 40)) (.string (Wd.cut o.val 60)) (.slice A tn c) (.int .i64 o.n) (.slice Bm mn d) (.int .i64 o.page) (.int .i64 o.at_) (.int .i64 o.x)
        have hk9 := Kd.R_grown (Kd.R_mono (ok' := fun k => w.heap.size + 2 ≤ k) (Kd.R_bound hRk) (fun k hk => hk.2.1)) hg9 (fun k hk e => by have := Option.some.inj e; omega)
        have hm9 := Kd.R_grown (Kd.R_mono (ok' := fun k => w.heap.size + 2 ≤ k) (Kd.R_bound hRm) (fun k hk => hk.2.1)) hg9 (fun k hk e => by have := Option.some.inj e; omega)
        have hb9 := pw_below_grown hb3 _ hb3.size hg9 (fun k e => by cases e; omega)
        generalize ((((((((((w3.setCell ⟨w.heap.size + 1, 0, none⟩ (.int .i64 o.kind)).setCell ⟨w.heap.size + 1, 1, none⟩ (.int .i64 o.s)).setCell ⟨w.heap.size + 1, 2, none⟩ (.string (Wd.cut o.key 40))).setCell ⟨w.heap.size + 1, 3, none⟩ (.string (Wd.cut o.val 60))).setCell ⟨w.heap.size + 1, 4, none⟩ (.slice A tn c)).setCell ⟨w.heap.size + 1, 5, none⟩ (.int .i64 o.n)).setCell ⟨w.heap.size + 1, 6, none⟩ (.slice Bm mn d)).setCell ⟨w.heap.size + 1, 7, none⟩ (.int .i64 o.page)).setCell ⟨w.heap.size + 1, 8, none⟩ (.int .i64 o.at_)).setCell ⟨w.heap.size + 1, 9, none⟩ (.int .i64 o.x)) = w9 at hz9 hg9 hk9 hm9 hb9 ⊢
        obtain ⟨t0, t1, t2, t3, t4, t5, t6, t7, t8, t9⟩ := cells10 hz9
        refine bodyPost_ret (v := .agg #[.int .i64 o.kind, .int .i64 o.s, .string (Wd.cut o.key 40), .string (Wd.cut o.val 60), .slice A tn c, .int .i64 o.n, .slice Bm mn d, .int .i64 o.page, .int .i64 o.at_, .int .i64 o.x]) (by simp [results, Tryd.results46, go_sem, t0, t1, t2, t3, t4, t5, t6, t7, t8, t9]) rfl ?_
        exact shorted_mk (o' := shortT o false) Htl.out (by rw [← Htn.out, ← Htl.out]; rfl) Hml.out (by rw [← Hmn.out, ← Hml.out]; rfl) (Kd.R_lower (Kd.R_mono hk9 (fun _ _ => trivial)) (by omega)) (Kd.R_lower (Kd.R_mono hm9 (fun _ _ => trivial)) (by omega)) hb9
      · have r0 : w3.cell? ⟨w.heap.size, 0, none⟩ = some (.int .i64 o.kind) := Lib.cell_of_heap hz3 0
        have f0 : w3.frozen? ⟨w.heap.size, 0, none⟩ = false := Lib.frozen_of_heap hz3 0
        go_wp2_with fail
        refine (pick16 o.kind w3).mono ?_
        rintro e w4 ⟨rfl, hw⟩
        obtain rfl := hw.symm
        clear hw
        go_upto_region 6 with (fail)
        have hz4 : (w3.setCell ⟨w.heap.size, 0, none⟩ (.int .i64 (pickI o.kind 16))).heap[w.heap.size]? = some (.cells #[.int .i64 (pickI o.kind 16), .int .i64 o.s, .string (Wd.cut o.key 40), .string (Wd.cut o.val 60), .slice A tn c, .int .i64 o.n, .slice Bm mn d, .int .i64 o.page, .int .i64 o.at_, .int .i64 o.x] 61) := set_heap hz3 0 _
        have hg4 := set_grown w3 w.heap.size 0 (.int .i64 (pickI o.kind 16))
        have hy4 := (Below.heap_setCell w3 ⟨w.heap.size, 0, none⟩ (.int .i64 (pickI o.kind 16)) (w.heap.size + 1) (by simp)).trans hy3
        have hk4 := R_up hRk hg4
        have hm4 := R_up hRm hg4
        have hb4 := hb3.setCell (p := ⟨w.heap.size, 0, none⟩) (Nat.le_refl _) (.int .i64 (pickI o.kind 16))
        generalize w3.setCell ⟨w.heap.size, 0, none⟩ (.int .i64 (pickI o.kind 16)) = w4 at hz4 hg4 hy4 hk4 hm4 hb4 ⊢
        clear hz3 hy3 hRk hRm hb3 hg4 r0 f0
        go_cut [] (fun wd => wd.heap[w.heap.size]? = some (.cells #[.int .i64 (pickI o.kind 16), .int .i64 (Int.tmod o.s 1000003), .string (Wd.cut o.key 40), .string (Wd.cut o.val 60), .slice A tn c, .int .i64 (Int.tmod o.n 1000003), .slice Bm mn d, .int .i64 (Int.tmod o.page 1000003), .int .i64 (Int.tmod o.at_ 2000), .int .i64 (pickI o.x 258 - 1)] 61) ∧ wd.heap[w.heap.size + 1]? = some (.cells #[.int .i64 0, .int .i64 0, .string ⟨#[]⟩, .string ⟨#[]⟩, .slice none 0 0, .int .i64 0, .slice none 0 0, .int .i64 0, .int .i64 0, .int .i64 0] 61) ∧ Kd.R Kd.string 9 wd (w.heap.size + 2) (fun _ => True) (.slice A tn c) tl ∧ Kd.R (Kd.int .i64) 3 wd (w.heap.size + 2) (fun _ => True) (.slice Bm mn d) ml ∧ Below w.heap.size w wd)
        case first =>
          obtain ⟨_, r1, _, _, _, r5, _, r7, r8, r9⟩ := cells10 hz4
          obtain ⟨_, f1, _, _, _, f5, _, f7, f8, f9⟩ := frozen10 hz4
          have hpx := pickI_in o.x 258 (by decide)
          obtain ⟨x258, hx258⟩ : ∃ x, pickI o.x 258 = x := ⟨_, rfl⟩
          have hp := fun W => pick258 o.x W
          rw [hx258] at hpx hp
          obtain ⟨hp0, hp1⟩ := hpx
          have Hx := Lib.hid hx258
          clear hx258
          go_wp2_with fail
          refine start_ (n := 26) (S := fun w' => w'.cell? ⟨w.heap.size, 1, none⟩ = some (.int .i64 o.s) ∧ w'.cell? ⟨w.heap.size, 5, none⟩ = some (.int .i64 o.n) ∧ w'.cell? ⟨w.heap.size, 7, none⟩ = some (.int .i64 o.page) ∧ w'.cell? ⟨w.heap.size, 8, none⟩ = some (.int .i64 o.at_) ∧ w'.cell? ⟨w.heap.size, 9, none⟩ = some (.int .i64 o.x)) (ds := [17, 19, 21, 23, 25]) #[false, false, false, false, false, false, false, false, false, false, false, false, false, false, false, false, false, false, false, false, false, false, false, false, false, false] (by kernel_rfl) rfl rfl ⟨r1, r5, r7, r8, r9⟩ (fun hHeld => ?_)
          refine pure_ (i := 0) (N := some 29) (v := ?_) (a' := ?_) #[true, false, false, false, false, false, false, false, false, false, false, false, false, false, false, false, false, false, false, false, false, false, false, false, false, false] rfl rfl (by kernel_rfl) (fun _ _ _ h => h) (Or.inl ⟨by rfl, ?_⟩) ?_ ?_
          rotate_left
          · intro w'
            go_simp
            with_reducible rfl
          rotate_left
          · simp only [Act.put, List.setIfInBounds_toArray, List.set_cons_zero, List.set_cons_succ, i64_w, i32_w]
            rfl
          refine take_ (i := 1) (N := some 30) (v := ?_) (a' := ?_) #[true, true, false, false, false, false, false, false, false, false, false, false, false, false, false, false, false, false, false, false, false, false, false, false, false, false] rfl rfl (by kernel_rfl) (fun _ _ _ h => h) (Or.inl ⟨by rfl, ?_⟩) hHeld ?_ ?_
          rotate_left
          · rintro w' ⟨s1, s5, s7, s8, s9⟩
            go_simp
            with_reducible rfl
          rotate_left
          · simp only [Act.put, List.setIfInBounds_toArray, List.set_cons_zero, List.set_cons_succ, i64_w, i32_w]
            rfl
          refine pure_ (i := 2) (N := some 31) (v := ?_) (a' := ?_) #[true, true, true, false, false, false, false, false, false, false, false, false, false, false, false, false, false, false, false, false, false, false, false, false, false, false] rfl rfl (by kernel_rfl) (fun _ _ _ h => h) (Or.inl ⟨by rfl, ?_⟩) ?_ ?_
          rotate_left
          · intro w'
            go_simp
            with_reducible rfl
          rotate_left
          · simp only [Act.put, List.setIfInBounds_toArray, List.set_cons_zero, List.set_cons_succ, i64_w, i32_w]
            rfl
          refine pure_ (i := 3) (N := some 32) (v := ?_) (a' := ?_) #[true, true, true, true, false, false, false, false, false, false, false, false, false, false, false, false, false, false, false, false, false, false, false, false, false, false] rfl rfl (by kernel_rfl) (fun _ _ _ h => h) (Or.inl ⟨by rfl, ?_⟩) ?_ ?_
          rotate_left
          · intro w'
            go_simp
            with_reducible rfl
          rotate_left
          · simp only [Act.put, List.setIfInBounds_toArray, List.set_cons_zero, List.set_cons_succ, i64_w, i32_w]
            rfl
          refine take_ (i := 4) (N := some 33) (v := ?_) (a' := ?_) #[true, true, true, true, true, false, false, false, false, false, false, false, false, false, false, false, false, false, false, false, false, false, false, false, false, false] rfl rfl (by kernel_rfl) (fun _ _ _ h => h) (Or.inl ⟨by rfl, ?_⟩) hHeld ?_ ?_
          rotate_left
          · rintro w' ⟨s1, s5, s7, s8, s9⟩
            go_simp
            with_reducible rfl
          rotate_left
          · simp only [Act.put, List.setIfInBounds_toArray, List.set_cons_zero, List.set_cons_succ, i64_w, i32_w]
            rfl
          refine pure_ (i := 5) (N := some 34) (v := ?_) (a' := ?_) #[true, true, true, true, true, true, false, false, false, false, false, false, false, false, false, false, false, false, false, false, false, false, false, false, false, false] rfl rfl (by kernel_rfl) (fun _ _ _ h => h) (Or.inl ⟨by rfl, ?_⟩) ?_ ?_
          rotate_left
          · intro w'
            go_simp
            with_reducible rfl
          rotate_left
          · simp only [Act.put, List.setIfInBounds_toArray, List.set_cons_zero, List.set_cons_succ, i64_w, i32_w]
            rfl
          refine pure_ (i := 6) (N := some 35) (v := ?_) (a' := ?_) #[true, true, true, true, true, true, true, false, false, false, false, false, false, false, false, false, false, false, false, false, false, false, false, false, false, false] rfl rfl (by kernel_rfl) (fun _ _ _ h => h) (Or.inl ⟨by rfl, ?_⟩) ?_ ?_
          rotate_left
          · intro w'
            go_simp
            with_reducible rfl
          rotate_left
          · simp only [Act.put, List.setIfInBounds_toArray, List.set_cons_zero, List.set_cons_succ, i64_w, i32_w]
            rfl
          refine take_ (i := 7) (N := some 36) (v := ?_) (a' := ?_) #[true, true, true, true, true, true, true, true, false, false, false, false, false, false, false, false, false, false, false, false, false, false, false, false, false, false] rfl rfl (by kernel_rfl) (fun _ _ _ h => h) (Or.inl ⟨by rfl, ?_⟩) hHeld ?_ ?_
          rotate_left
          · rintro w' ⟨s1, s5, s7, s8, s9⟩
            go_simp
            with_reducible rfl
          rotate_left
          · simp only [Act.put, List.setIfInBounds_toArray, List.set_cons_zero, List.set_cons_succ, i64_w, i32_w]
            rfl
          refine pure_ (i := 8) (N := some 37) (v := ?_) (a' := ?_) #[true, true, true, true, true, true, true, true, true, false, false, false, false, false, false, false, false, false, false, false, false, false, false, false, false, false] rfl rfl (by kernel_rfl) (fun _ _ _ h => h) (Or.inl ⟨by rfl, ?_⟩) ?_ ?_
          rotate_left
          · intro w'
            go_simp
            with_reducible rfl
          rotate_left
          · simp only [Act.put, List.setIfInBounds_toArray, List.set_cons_zero, List.set_cons_succ, i64_w, i32_w]
            rfl
          refine pure_ (i := 9) (N := some 38) (v := ?_) (a' := ?_) #[true, true, true, true, true, true, true, true, true, true, false, false, false, false, false, false, false, false, false, false, false, false, false, false, false, false] rfl rfl (by kernel_rfl) (fun _ _ _ h => h) (Or.inl ⟨by rfl, ?_⟩) ?_ ?_
          rotate_left
          · intro w'
            go_simp
            with_reducible rfl
          rotate_left
          · simp only [Act.put, List.setIfInBounds_toArray, List.set_cons_zero, List.set_cons_succ, i64_w, i32_w]
            rfl
          refine take_ (i := 10) (N := some 39) (v := ?_) (a' := ?_) #[true, true, true, true, true, true, true, true, true, true, true, false, false, false, false, false, false, false, false, false, false, false, false, false, false, false] rfl rfl (by kernel_rfl) (fun _ _ _ h => h) (Or.inl ⟨by rfl, ?_⟩) hHeld ?_ ?_
          rotate_left
          · rintro w' ⟨s1, s5, s7, s8, s9⟩
            go_simp
            with_reducible rfl
          rotate_left
          · simp only [Act.put, List.setIfInBounds_toArray, List.set_cons_zero, List.set_cons_succ, i64_w, i32_w]
            rfl
          refine pure_ (i := 11) (N := some 40) (v := ?_) (a' := ?_) #[true, true, true, true, true, true, true, true, true, true, true, true, false, false, false, false, false, false, false, false, false, false, false, false, false, false] rfl rfl (by kernel_rfl) (fun _ _ _ h => h) (Or.inl ⟨by rfl, ?_⟩) ?_ ?_
          rotate_left
          · intro w'
            go_simp
            with_reducible rfl
          rotate_left
          · simp only [Act.put, List.setIfInBounds_toArray, List.set_cons_zero, List.set_cons_succ, i64_w, i32_w]
            rfl
          refine pure_ (i := 12) (N := some 41) (v := ?_) (a' := ?_) #[true, true, true, true, true, true, true, true, true, true, true, true, true, false, false, false, false, false, false, false, false, false, false, false, false, false] rfl rfl (by kernel_rfl) (fun _ _ _ h => h) (Or.inl ⟨by rfl, ?_⟩) ?_ ?_
          rotate_left
          · intro w'
            go_simp
            with_reducible rfl
          rotate_left
          · simp only [Act.put, List.setIfInBounds_toArray, List.set_cons_zero, List.set_cons_succ, i64_w, i32_w]
            rfl
          refine take_ (i := 13) (N := some 42) (v := ?_) (a' := ?_) #[true, true, true, true, true, true, true, true, true, true, true, true, true, true, false, false, false, false, false, false, false, false, false, false, false, false] rfl rfl (by kernel_rfl) (fun _ _ _ h => h) (Or.inl ⟨by rfl, ?_⟩) hHeld ?_ ?_
          rotate_left
          · rintro w' ⟨s1, s5, s7, s8, s9⟩
            go_simp
            with_reducible rfl
          rotate_left
          · simp only [Act.put, List.setIfInBounds_toArray, List.set_cons_zero, List.set_cons_succ, i64_w, i32_w]
            rfl
          refine pure_ (i := 16) (N := some 45) (v := ?_) (a' := ?_) #[true, true, true, true, true, true, true, true, true, true, true, true, true, true, false, false, true, false, false, false, false, false, false, false, false, false] rfl rfl (by kernel_rfl) (fun _ _ _ h => h) (Or.inl ⟨by rfl, ?_⟩) ?_ ?_
          rotate_left
          · intro w'
            go_simp
            with_reducible rfl
          rotate_left
          · simp only [Act.put, List.setIfInBounds_toArray, List.set_cons_zero, List.set_cons_succ, i64_w, i32_w]
            rfl
          refine one_ (i := 14) (N := some 43) #[true, true, true, true, true, true, true, true, true, true, true, true, true, true, true, false, true, false, false, false, false, false, false, false, false, false] rfl rfl (by kernel_rfl) (by decide) (fun K hK => ?_)
          refine goes_ Tryd.func25 (by kernel_rfl) rfl #[.int .i64 o.x, .int .i64 258] (by rfl) rfl rfl (by (try simp only [List.map_toArray, List.map_cons, List.map_nil]); first | done | rfl) ?_
          with_reducible refine (hp _).mono ?_
          rintro e w' ⟨rfl, hw⟩
          obtain rfl := hw.symm
          clear hw
          refine ⟨_, rfl, ?_⟩
          refine hK.out _ _ hHeld (fun hHeld => ?_)
          clear hK K
          refine norm_ (a' := ?_) ?_ ?_
          rotate_left
          · simp only [Act.put, List.setIfInBounds_toArray, List.set_cons_zero, List.set_cons_succ, i64_w, i32_w]
            rfl
          refine pure_ (i := 15) (N := some 44) (v := ?_) (a' := ?_) #[true, true, true, true, true, true, true, true, true, true, true, true, true, true, true, true, true, false, false, false, false, false, false, false, false, false] rfl rfl (by kernel_rfl) (fun _ _ _ h => h) (Or.inl ⟨by rfl, ?_⟩) ?_ ?_
          rotate_left
          · intro w'
            go_simp
            with_reducible rfl
          rotate_left
          · simp only [Act.put, List.setIfInBounds_toArray, List.set_cons_zero, List.set_cons_succ, i64_w, i32_w]
            rfl
          refine last_ (i := 17) (N := none) #[true, true, true, true, true, true, true, true, true, true, true, true, true, true, true, true, true, true, false, false, false, false, false, false, false, false] rfl rfl (by kernel_rfl) (by decide) (fun K hK => ?_)
          refine skip_ (w1 := ?_) (by rfl) rfl ?_ ?_
          rotate_left
          · go_simp
            rfl
          refine hK.out _ _ ?_
          clear hK K
          refine pure_ (i := 18) (N := some 46) (v := ?_) (a' := ?_) #[true, true, true, true, true, true, true, true, true, true, true, true, true, true, true, true, true, true, true, false, false, false, false, false, false, false] rfl rfl (by kernel_rfl) (fun _ _ _ h => h) (Or.inl ⟨by rfl, ?_⟩) ?_ ?_
          rotate_left
          · intro w'
            go_simp
            with_reducible rfl
          rotate_left
          · simp only [Act.put, List.setIfInBounds_toArray, List.set_cons_zero, List.set_cons_succ, i64_w, i32_w]
            rfl
          refine last_ (i := 19) (N := none) #[true, true, true, true, true, true, true, true, true, true, true, true, true, true, true, true, true, true, true, true, false, false, false, false, false, false] rfl rfl (by kernel_rfl) (by decide) (fun K hK => ?_)
          refine skip_ (w1 := ?_) (by rfl) rfl ?_ ?_
          rotate_left
          · go_simp
            rfl
          refine hK.out _ _ ?_
          clear hK K
          refine pure_ (i := 20) (N := some 47) (v := ?_) (a' := ?_) #[true, true, true, true, true, true, true, true, true, true, true, true, true, true, true, true, true, true, true, true, true, false, false, false, false, false] rfl rfl (by kernel_rfl) (fun _ _ _ h => h) (Or.inl ⟨by rfl, ?_⟩) ?_ ?_
          rotate_left
          · intro w'
            go_simp
            with_reducible rfl
          rotate_left
          · simp only [Act.put, List.setIfInBounds_toArray, List.set_cons_zero, List.set_cons_succ, i64_w, i32_w]
            rfl
          refine last_ (i := 21) (N := none) #[true, true, true, true, true, true, true, true, true, true, true, true, true, true, true, true, true, true, true, true, true, true, false, false, false, false] rfl rfl (by kernel_rfl) (by decide) (fun K hK => ?_)
          refine skip_ (w1 := ?_) (by rfl) rfl ?_ ?_
          rotate_left
          · go_simp
            rfl
          refine hK.out _ _ ?_
          clear hK K
          refine pure_ (i := 22) (N := some 48) (v := ?_) (a' := ?_) #[true, true, true, true, true, true, true, true, true, true, true, true, true, true, true, true, true, true, true, true, true, true, true, false, false, false] rfl rfl (by kernel_rfl) (fun _ _ _ h => h) (Or.inl ⟨by rfl, ?_⟩) ?_ ?_
          rotate_left
          · intro w'
            go_simp
            with_reducible rfl
          rotate_left
          · simp only [Act.put, List.setIfInBounds_toArray, List.set_cons_zero, List.set_cons_succ, i64_w, i32_w]
            rfl
          refine last_ (i := 23) (N := none) #[true, true, true, true, true, true, true, true, true, true, true, true, true, true, true, true, true, true, true, true, true, true, true, true, false, false] rfl rfl (by kernel_rfl) (by decide) (fun K hK => ?_)
          refine skip_ (w1 := ?_) (by rfl) rfl ?_ ?_
          rotate_left
          · go_simp
            rfl
          refine hK.out _ _ ?_
          clear hK K
          refine pure_ (i := 24) (N := some 49) (v := ?_) (a' := ?_) #[true, true, true, true, true, true, true, true, true, true, true, true, true, true, true, true, true, true, true, true, true, true, true, true, true, false] rfl rfl (by kernel_rfl) (fun _ _ _ h => h) (Or.inl ⟨by rfl, ?_⟩) ?_ ?_
          rotate_left
          · intro w'
            go_simp
            with_reducible rfl
          rotate_left
          · simp only [Act.put, List.setIfInBounds_toArray, List.set_cons_zero, List.set_cons_succ, i64_w, i32_w]
            rfl
          refine last_ (i := 25) (N := none) #[true, true, true, true, true, true, true, true, true, true, true, true, true, true, true, true, true, true, true, true, true, true, true, true, true, true] rfl rfl (by kernel_rfl) (by decide) (fun K hK => ?_)
          refine skip_ (w1 := ?_) (by rfl) rfl ?_ ?_
          rotate_left
          · go_simp
            rfl
          refine hK.out _ _ ?_
          clear hK K
          refine done_ (by kernel_rfl) ?_
          go_wp2_with fail
          go_meet
          case rel =>
            have ew : wrap64 (x258 - 1) = pickI o.x 258 - 1 := by rw [Hx.out]; exact dw64 _ (by omega) (by omega)
            rw [ew]
            exact ⟨set_heap (set_heap (set_heap (set_heap (set_heap hz4 1 _) 5 _) 7 _) 8 _) 9 _, (Below.heap_setCell _ ⟨w.heap.size, 9, none⟩ _ _ (by simp)).trans ((Below.heap_setCell _ ⟨w.heap.size, 8, none⟩ _ _ (by simp)).trans ((Below.heap_setCell _ ⟨w.heap.size, 7, none⟩ _ _ (by simp)).trans ((Below.heap_setCell _ ⟨w.heap.size, 5, none⟩ _ _ (by simp)).trans ((Below.heap_setCell _ ⟨w.heap.size, 1, none⟩ _ _ (by simp)).trans hy4)))),
              Kd.R_drew (R_up (R_up (R_up (R_up (R_up hk4 (set_grown _ _ 1 _)) (set_grown _ _ 5 _)) (set_grown _ _ 7 _)) (set_grown _ _ 8 _)) (set_grown _ _ 9 _)), Kd.R_drew (R_up (R_up (R_up (R_up (R_up hm4 (set_grown _ _ 1 _)) (set_grown _ _ 5 _)) (set_grown _ _ 7 _)) (set_grown _ _ 8 _)) (set_grown _ _ 9 _)),
              below_drew (((((hb4.setCell (p := ⟨w.heap.size, 1, none⟩) (Nat.le_refl _) _).setCell (p := ⟨w.heap.size, 5, none⟩) (Nat.le_refl _) _).setCell (p := ⟨w.heap.size, 7, none⟩) (Nat.le_refl _) _).setCell (p := ⟨w.heap.size, 8, none⟩) (Nat.le_refl _) _).setCell (p := ⟨w.heap.size, 9, none⟩) (Nat.le_refl _) _)⟩
        case rest =>
          obtain ⟨hz5, hy5, hk5, hm5, hb5⟩ := hcut
          have hmn6 : mn ≤ 6 := by rw [← Hmn.out, ← Hml.out, List.length_take]; omega
          clear hz4 hy4 hk4 hm4 hb4
          go_wp2_with fail
          go_loopw [5] (fun i wr => ∃ q : Nat, q ≤ mn ∧ i = .int .i64 q ∧ wr.heap[w.heap.size]? = some (.cells #[.int .i64 (pickI o.kind 16), .int .i64 (Int.tmod o.s 1000003), .string (Wd.cut o.key 40), .string (Wd.cut o.val 60), .slice A tn c, .int .i64 (Int.tmod o.n 1000003), .slice Bm mn d, .int .i64 (Int.tmod o.page 1000003), .int .i64 (Int.tmod o.at_ 2000), .int .i64 (pickI o.x 258 - 1)] 61) ∧ wr.heap[w.heap.size + 1]? = some (.cells #[.int .i64 0, .int .i64 0, .string ⟨#[]⟩, .string ⟨#[]⟩, .slice none 0 0, .int .i64 0, .slice none 0 0, .int .i64 0, .int .i64 0, .int .i64 0] 61) ∧ Kd.R Kd.string 9 wr (w.heap.size + 2) (fun _ => True) (.slice A tn c) tl ∧ Kd.R (Kd.int .i64) 3 wr (w.heap.size + 2) (fun _ => True) (.slice Bm mn d) ((ml.take q).map (fun v => Int.tmod v 1000002) ++ ml.drop q) ∧ Below w.heap.size w wr) (fun i _ => mn - (intOf i).toNat)
          case atStart => exact ⟨0, Nat.zero_le _, rfl, hz5, hy5, hk5, hm5, hb5⟩
          case round =>
            clear hz5 hy5 hk5 hm5 hb5
            obtain ⟨q, hqm, rfl, hzr, hyr, hkr, hmr, hbr⟩ := hrel
            have hlen : ((ml.take q).map (fun v => Int.tmod v 1000002) ++ ml.drop q).length = mn := by simp [Hmn.out]; omega
            by_cases hlq : q < mn
            · obtain ⟨bb, cap, eb, hbb, hbl, cells, hcells⟩ := Kd.R_form hmr (by omega)
              rw [hlen] at eb
              simp only [Value.slice.injEq] at eb
              obtain ⟨e1, _, e3⟩ := eb
              subst e1 e3
              have hlq2 : q < ml.length := by rw [Hmn.out]; exact hlq
              obtain ⟨c0, f0⟩ := Kd.R_celln 0 hmr (q : Int) (by omega) (by omega)
              have hrd : rdOf 0 ((ml.take q).map (fun v => Int.tmod v 1000002) ++ ml.drop q) (q : Int) = ml[q] := by simp [rdOf, List.getD_eq_getElem?_getD, List.getElem?_append, Nat.min_eq_left (Nat.le_of_lt hlq2), hlq2]
              rw [hrd] at c0
              simp only [Int.toNat_natCast] at c0 f0
              obtain ⟨v, hv⟩ : ∃ v, ml[q] = v := ⟨_, rfl⟩
              rw [hv] at c0
              have hput := Kd.R_putn hmr (q : Int) (Int.tmod v 1000002)
              rw [show ((ml.take q).map (fun v => Int.tmod v 1000002) ++ ml.drop q).set (q : Int).toNat (Int.tmod v 1000002) = (ml.take (q + 1)).map (fun v => Int.tmod v 1000002) ++ ml.drop (q + 1) by rw [← hv]; exact set_step ml q hlq2] at hput
              simp only [Int.toNat_natCast] at hput
              have hk6 := Kd.R_set hkr hcells (by decide) q (.int .i64 (Int.tmod v 1000002))
              have hz6 := (Below.heap_setCell wr ⟨bb, q, none⟩ (.int .i64 (Int.tmod v 1000002)) w.heap.size (by show w.heap.size ≠ bb; omega)).trans hzr
              have hy6 := (Below.heap_setCell wr ⟨bb, q, none⟩ (.int .i64 (Int.tmod v 1000002)) (w.heap.size + 1) (by show w.heap.size + 1 ≠ bb; omega)).trans hyr
              have hb6 := hbr.setCell (p := ⟨bb, q, none⟩) (by show w.heap.size ≤ bb; omega) (.int .i64 (Int.tmod v 1000002))
              have r6 : wr.cell? ⟨w.heap.size, 6, none⟩ = some (.slice (some ⟨bb, 0, none⟩) mn d) := Lib.cell_of_heap hzr 6
              have HP := Lib.hid hput
              have HZ := Lib.hid hz6
              have HY := Lib.hid hy6
              have HK := Lib.hid hk6
              have HBB := Lib.hid hb6
              clear hput hz6 hy6 hk6 hb6 hzr hyr hkr hmr hbr hcells hv hrd hlen
              go_wp2
              go_roundw
              case rel => exact ⟨q + 1, hlq, by simp, HZ.out, HY.out, HK.out, HP.out, HBB.out⟩
              case measure => simp [intOf]; omega
            · have hqe : q = mn := by omega
              subst hqe
              have hall : (ml.take q).map (fun v => Int.tmod v 1000002) ++ ml.drop q = ml.map (fun v => Int.tmod v 1000002) := by rw [List.take_of_length_le (by rw [Hmn.out]; exact Nat.le_refl _), List.drop_eq_nil_of_le (by rw [Hmn.out]; exact Nat.le_refl _), List.append_nil]
              rw [hall] at hmr
              clear hall hlen
              obtain ⟨r0, r1, r2, r3, r4, r5, r6, r7, r8, r9⟩ := cells10 hzr
              obtain ⟨s0, s1, s2, s3, s4, s5, s6, s7, s8, s9⟩ := cells10 hyr
              obtain ⟨sf0, sf1, sf2, sf3, sf4, sf5, sf6, sf7, sf8, sf9⟩ := frozen10 hyr
              go_wp2
              clear r0 r1 r2 r3 r4 r5 r6 r7 r8 r9 s0 s1 s2 s3 s4 s5 s6 s7 s8 s9 sf0 sf1 sf2 sf3 sf4 sf5 sf6 sf7 sf8 sf9
              have hz9 := put10 hyr (.int .i64 (pickI o.kind 16)) (.int .i64 (Int.tmod o.s 1000003)) (.string (Wd.cut o.key 40)) (.string (Wd.cut o.val 60)) (.slice A tn c) (.int .i64 (Int.tmod o.n 1000003)) (.slice Bm q d) (.int .i64 (Int.tmod o.page 1000003)) (.int .i64 (Int.tmod o.at_ 2000)) (.int .i64 (pickI o.x 258 - 1))
              have hg9 := grown10 wr (w.heap.size + 1) (.int .i64 (pickI o.kind 16)) (.int .i64 (Int.tmod o.s 1000003)) (.string (Wd.cut o.key 40)) (.string (Wd.cut o.val 60)) (.slice A tn c) (.int .i64 (Int.tmod o.n 1000003)) (.slice Bm q d) (.int .i64 (Int.tmod o.page 1000003)) (.int .i64 (Int.tmod o.at_ 2000)) (.int .i64 (pickI o.x 258 - 1))
              have hk9 := Kd.R_grown (Kd.R_mono (ok' := fun k => w.heap.size + 2 ≤ k) (Kd.R_bound hkr) (fun k hk => hk.2.1)) hg9 (fun k hk e => by have := Option.some.inj e; omega)
              have hm9 := Kd.R_grown (Kd.R_mono (ok' := fun k => w.heap.size + 2 ≤ k) (Kd.R_bound hmr) (fun k hk => hk.2.1)) hg9 (fun k hk e => by have := Option.some.inj e; omega)
              have hb9 := pw_below_grown hbr _ hbr.size hg9 (fun k e => by cases e; omega)
              generalize ((((((((((wr.setCell ⟨w.heap.size + 1, 0, none⟩ (.int .i64 (pickI o.kind 16))).setCell ⟨w.heap.size + 1, 1, none⟩ (.int .i64 (Int.tmod o.s 1000003))).setCell ⟨w.heap.size + 1, 2, none⟩ (.string (Wd.cut o.key 40))).setCell ⟨w.heap.size + 1, 3, none⟩ (.string (Wd.cut o.val 60))).setCell ⟨w.heap.size + 1, 4, none⟩ (.slice A tn c)).setCell ⟨w.heap.size + 1, 5, none⟩ (.int .i64 (Int.tmod o.n 1000003))).setCell ⟨w.heap.size + 1, 6, none⟩ (.slice Bm q d)).setCell ⟨w.heap.size + 1, 7, none⟩ (.int .i64 (Int.tmod o.page 1000003))).setCell ⟨w.heap.size + 1, 8, none⟩ (.int .i64 (Int.tmod o.at_ 2000))).setCell ⟨w.heap.size + 1, 9, none⟩ (.int .i64 (pickI o.x 258 - 1))) = w9 at hz9 hg9 hk9 hm9 hb9 ⊢
              obtain ⟨t0, t1, t2, t3, t4, t5, t6, t7, t8, t9⟩ := cells10 hz9
              refine bodyPost_ret (v := .agg #[.int .i64 (pickI o.kind 16), .int .i64 (Int.tmod o.s 1000003), .string (Wd.cut o.key 40), .string (Wd.cut o.val 60), .slice A tn c, .int .i64 (Int.tmod o.n 1000003), .slice Bm q d, .int .i64 (Int.tmod o.page 1000003), .int .i64 (Int.tmod o.at_ 2000), .int .i64 (pickI o.x 258 - 1)]) (by simp [results, Tryd.results46, go_sem, t0, t1, t2, t3, t4, t5, t6, t7, t8, t9]) rfl ?_
              exact shorted_mk (o' := shortT o true) Htl.out (by rw [← Htn.out, ← Htl.out]; rfl) (by rw [← Hml.out]; rfl) (by rw [← Hmn.out, ← Hml.out]; simp [shortT]) (Kd.R_lower (Kd.R_mono hk9 (fun _ _ => trivial)) (by omega)) (Kd.R_lower (Kd.R_mono hm9 (fun _ _ => trivial)) (by omega)) hb9
end Go.Proofs.YtfaelejeihmgcaaDoor.Stp
end

section
namespace Go.Proofs.YtfaelejeihmgcaaDoor.Stp
open Go.RowKit Go.Proofs.YtfaelejeihmgcaaDoorW.PrintWords
theorem printW_at (o : OpV) (k : Int) (w f : ByteArray) (hk : o.kind = k) (hn : nameT k = (w, f)) (hw : ¬ w.toList = []) : printW o = printF f.data.toList o [w] := by
  unfold printW
  rw [hk, hn]
  exact if_neg hw
theorem refW_at (o : OpV) (k : Nat) (hk : o.kind = k) (h1 : 1 ≤ k) (h2 : k ≤ 14) (h3 : k ≠ 13) : refW o = (maskW (numsOf o) [wordAt k]).map (· ++ restOf o) := by
  unfold refW
  rw [if_neg (by omega), if_neg (by omega), show o.kind.toNat = k by omega]
theorem fits_120 (v : Int) : fitsB 120 v = true ↔ 0 ≤ v ∧ v ≤ 255 := by
  unfold fitsB
  rw [if_pos rfl, Bool.and_eq_true, decide_eq_true_eq, decide_eq_true_eq]
theorem fits_77t (v : Int) : fitsB 77 v = true ↔ -1000000 ≤ v ∧ v ≤ 1000000 := by
  unfold fitsB
  rw [if_neg (by decide), Bool.and_eq_true, decide_eq_true_eq, decide_eq_true_eq]
theorem printF_s (fs : List UInt8) (o : OpV) (acc : List ByteArray) : printF (115 :: fs) o acc = if fitsB 77 o.s = true then printF fs o (acc ++ [itoaB o.s]) else none := by
  rw [printF, if_neg (by decide), if_neg (by decide), if_neg (by decide), if_neg (by decide)]
  rfl
theorem printF_n (fs : List UInt8) (o : OpV) (acc : List ByteArray) : printF (110 :: fs) o acc = if fitsB 77 o.n = true then printF fs o (acc ++ [itoaB o.n]) else none := by
  rw [printF, if_neg (by decide), if_neg (by decide), if_neg (by decide), if_neg (by decide)]
  rfl
theorem printF_p (fs : List UInt8) (o : OpV) (acc : List ByteArray) : printF (112 :: fs) o acc = if fitsB 77 o.page = true then printF fs o (acc ++ [itoaB o.page]) else none := by
  rw [printF, if_neg (by decide), if_neg (by decide), if_neg (by decide), if_neg (by decide)]
  rfl
theorem printF_a (fs : List UInt8) (o : OpV) (acc : List ByteArray) : printF (97 :: fs) o acc = if fitsB 77 o.at_ = true then printF fs o (acc ++ [itoaB o.at_]) else none := by
  rw [printF, if_neg (by decide), if_neg (by decide), if_neg (by decide), if_neg (by decide)]
  rfl
theorem printF_x (fs : List UInt8) (o : OpV) (acc : List ByteArray) : printF (120 :: fs) o acc = if fitsB 120 o.x = true then printF fs o (acc ++ [itoaB o.x]) else none := by
  rw [printF, if_neg (by decide), if_neg (by decide), if_neg (by decide), if_neg (by decide)]
  rfl
theorem printF_k (fs : List UInt8) (o : OpV) (acc : List ByteArray) : printF (107 :: fs) o acc = printF fs o (acc ++ [o.key]) := by
  rw [printF, if_pos (by decide)]
theorem printF_v (fs : List UInt8) (o : OpV) (acc : List ByteArray) : printF (118 :: fs) o acc = printF fs o (acc ++ [o.val]) := by
  rw [printF, if_neg (by decide), if_pos (by decide)]
theorem printF_K (fs : List UInt8) (o : OpV) (acc : List ByteArray) : printF (75 :: fs) o acc = printF fs o (acc ++ o.keys) := by
  rw [printF, if_neg (by decide), if_neg (by decide), if_pos (by decide)]
theorem printF_M (fs : List UInt8) (o : OpV) (acc : List ByteArray) : printF (77 :: fs) o acc = (maskW o.mask acc).bind (printF fs o) := by
  rw [printF, if_neg (by decide), if_neg (by decide), if_neg (by decide), if_pos (by decide)]
theorem printF_0 (o : OpV) (acc : List ByteArray) : printF [] o acc = some acc := by rw [printF]
theorem word_k : ∀ i : Fin 15, 1 ≤ i.val → (nameT (i.val : Int)).1 = wordAt i.val := by decide +kernel
theorem nums_of {o : OpV} {k : Nat} (hk : o.kind = k) : numsOf o = if k = 2 ∨ k = 3 ∨ k = 4 ∨ k = 5 ∨ k = 6 then [o.s] else if k = 11 then [o.n] else if k = 12 then o.mask else if k = 13 then [o.page, o.at_, o.x] else [] := by
  unfold numsOf
  rw [hk]
  repeat' split
  all_goals first | rfl | omega
theorem rest_of {o : OpV} {k : Nat} (hk : o.kind = k) : restOf o = if k = 2 then [o.key, o.val] else if k = 3 then [o.key] else if k = 4 then o.keys else if k = 8 ∨ k = 9 then [o.key] else [] := by
  unfold restOf
  rw [hk]
  repeat' split
  all_goals first | rfl | omega
theorem maskW_one (v : Int) (acc : List ByteArray) : maskW [v] acc = if fitsB 77 v = true then some (acc ++ [itoaB v]) else none := by rw [maskW, maskW]
theorem map_ite {c : Prop} [Decidable c] (a : Option (List ByteArray)) (f : List ByteArray → List ByteArray) : Option.map f (if c then a else none) = if c then Option.map f a else none := by split <;> rfl
set_option maxRecDepth 100000 in
theorem print_same (o : OpV) : printW o = refW o := by
  by_cases hr : 1 ≤ o.kind ∧ o.kind ≤ 14
  · obtain ⟨k, hk⟩ : ∃ k : Nat, o.kind = k := ⟨o.kind.toNat, by omega⟩
    have kc : k = 1 ∨ k = 2 ∨ k = 3 ∨ k = 4 ∨ k = 5 ∨ k = 6 ∨ k = 7 ∨ k = 8 ∨ k = 9 ∨ k = 10 ∨ k = 11 ∨ k = 12 ∨ k = 13 ∨ k = 14 := by omega
    have hN := nums_of hk
    have hR := rest_of hk
    have hw := word_k ⟨k, by omega⟩ (by show 1 ≤ k; omega)
    have hp : printW o = printF (nameT (k : Int)).2.data.toList o [wordAt k] := by
      rw [← show (nameT (k : Int)).1 = wordAt k from hw]
      refine printW_at o k _ _ hk rfl ?_
      rw [show (nameT (k : Int)).1 = wordAt k from hw]
      have : ∀ i : Fin 15, 1 ≤ i.val → ¬ (wordAt i.val).toList = [] := by decide +kernel
      exact this ⟨k, by omega⟩ (by show 1 ≤ k; omega)
    rcases kc with rfl | rfl | rfl | rfl | rfl | rfl | rfl | rfl | rfl | rfl | rfl | rfl | rfl | rfl
    · rw [hp, refW_at o _ hk (by decide) (by decide) (by decide), hN, hR]
      rfl
    · rw [hp, refW_at o _ hk (by decide) (by decide) (by decide), hN, hR]
      show printF [115, 107, 118] o _ = Option.map (· ++ [o.key, o.val]) (maskW [o.s] _)
      rw [printF_s, maskW_one, map_ite, printF_k, printF_v, printF_0]
      simp
    · rw [hp, refW_at o _ hk (by decide) (by decide) (by decide), hN, hR]
      show printF [115, 107] o _ = Option.map (· ++ [o.key]) (maskW [o.s] _)
      rw [printF_s, maskW_one, map_ite, printF_k, printF_0]
      simp
    · rw [hp, refW_at o _ hk (by decide) (by decide) (by decide), hN, hR]
      show printF [115, 75] o _ = Option.map (· ++ o.keys) (maskW [o.s] _)
      rw [printF_s, maskW_one, map_ite, printF_K, printF_0]
      simp
    · rw [hp, refW_at o _ hk (by decide) (by decide) (by decide), hN, hR]
      show printF [115] o _ = Option.map (· ++ []) (maskW [o.s] _)
      rw [printF_s, maskW_one, map_ite, printF_0]
      simp
    · rw [hp, refW_at o _ hk (by decide) (by decide) (by decide), hN, hR]
      show printF [115] o _ = Option.map (· ++ []) (maskW [o.s] _)
      rw [printF_s, maskW_one, map_ite, printF_0]
      simp
    · rw [hp, refW_at o _ hk (by decide) (by decide) (by decide), hN, hR]
      rfl
    · rw [hp, refW_at o _ hk (by decide) (by decide) (by decide), hN, hR]
      show printF [107] o _ = Option.map (· ++ [o.key]) (maskW [] _)
      rw [printF_k, printF_0]
      rfl
    · rw [hp, refW_at o _ hk (by decide) (by decide) (by decide), hN, hR]
      show printF [107] o _ = Option.map (· ++ [o.key]) (maskW [] _)
      rw [printF_k, printF_0]
      rfl
    · rw [hp, refW_at o _ hk (by decide) (by decide) (by decide), hN, hR]
      rfl
    · rw [hp, refW_at o _ hk (by decide) (by decide) (by decide), hN, hR]
      show printF [110] o _ = Option.map (· ++ []) (maskW [o.n] _)
      rw [printF_n, maskW_one, map_ite, printF_0]
      simp
    · rw [hp, refW_at o _ hk (by decide) (by decide) (by decide), hN, hR]
      show printF [77] o _ = Option.map (· ++ []) (maskW o.mask _)
      rw [printF_M]
      cases maskW o.mask [wordAt 12] with
      | none => rfl
      | some l => show printF [] o l = some (l ++ []); rw [printF_0, List.append_nil]
    · rw [hp]
      show printF [112, 97, 120] o _ = _
      rw [printF_p, printF_a, printF_x, printF_0]
      unfold refW
      rw [if_neg (show ¬ (o.kind < 1 ∨ 14 < o.kind) by omega), show o.kind.toNat = 13 by omega, hN, hR]
      by_cases hx : fitsB 120 o.x = true
      · have hx2 := (fits_120 _).1 hx
        have hx3 : fitsB 77 o.x = true := (fits_77t _).2 (by omega)
        rw [if_pos hx, if_neg (show ¬ (o.kind = 13 ∧ (o.x < 0 ∨ 255 < o.x)) by omega)]
        show _ = Option.map (· ++ []) (maskW [o.page, o.at_, o.x] _)
        rw [maskW, maskW, maskW, maskW, if_pos hx3, map_ite, map_ite]
        simp
      · have hx2 : ¬ (0 ≤ o.x ∧ o.x ≤ 255) := fun h => hx ((fits_120 _).2 h)
        rw [if_neg hx, if_pos (show o.kind = 13 ∧ (o.x < 0 ∨ 255 < o.x) by omega)]
        split
        · split <;> rfl
        · rfl
    · rw [hp, refW_at o _ hk (by decide) (by decide) (by decide), hN, hR]
      rfl
  · unfold printW refW
    have hn : (nameT o.kind).1.toList = [] := by
      by_cases h0 : o.kind = 0
      · rw [h0]; decide +kernel
      · by_cases h15 : o.kind = 15
        · rw [h15]; decide +kernel
        · unfold nameT
          rw [name_out o.kind (by omega)]
          decide +kernel
    rw [if_pos hn, if_pos (by omega)]
/-- a step of short things -/
structure Small (o : OpV) : Prop where
  key : o.key.size ≤ 1000
  val : o.val.size ≤ 1000
  kn : o.keys.length ≤ 1000
  ks : ∀ x ∈ o.keys, x.size ≤ 1000
  mn : o.mask.length ≤ 1000
theorem maskW_eq : ∀ (N : List Int) (acc : List ByteArray), maskW N acc = if N.all (fun v => fitsB 77 v) = true then some (acc ++ N.map itoaB) else none
  | [], acc => by rw [maskW]; simp
  | v :: N, acc => by
    rw [maskW]
    by_cases h : fitsB 77 v = true
    · rw [if_pos h, maskW_eq N (acc ++ [itoaB v])]
      simp [h]
    · rw [if_neg h]
      simp [h]
theorem refW_eq (o : OpV) (l : List ByteArray) (h : refW o = some l) : 1 ≤ o.kind ∧ o.kind ≤ 14 ∧ (numsOf o).all (fun v => fitsB 77 v) = true ∧ l = wordAt o.kind.toNat :: ((numsOf o).map itoaB ++ restOf o) ∧ ¬ (o.kind = 13 ∧ (o.x < 0 ∨ 255 < o.x)) := by
  unfold refW at h
  by_cases h1 : o.kind < 1 ∨ 14 < o.kind
  · rw [if_pos h1] at h; cases h
  · rw [if_neg h1] at h
    by_cases h2 : o.kind = 13 ∧ (o.x < 0 ∨ 255 < o.x)
    · rw [if_pos h2] at h; cases h
    · rw [if_neg h2, maskW_eq] at h
      by_cases h3 : (numsOf o).all (fun v => fitsB 77 v) = true
      · rw [if_pos h3] at h
        refine ⟨by omega, by omega, h3, ?_, h2⟩
        have := Option.some.inj h
        rw [← this]
        simp
      · rw [if_neg h3] at h; cases h
theorem word_small (k : Nat) (h : k < 15) : (wordAt k).size ≤ 10 := by
  have : ∀ i : Fin 15, (wordAt i.val).size ≤ 10 := by decide +kernel
  exact this ⟨k, h⟩
theorem rest_small (o : OpV) (h : Small o) : ∀ x ∈ restOf o, x.size ≤ 1000 := by
  unfold restOf
  have h1 := h.key
  have h2 := h.val
  have h3 := h.ks
  repeat' split
  all_goals intro x hx
  all_goals try simp only [List.mem_cons, List.not_mem_nil, or_false] at hx
  all_goals first | exact h3 x hx | (rcases hx with rfl | rfl <;> assumption) | (subst hx; assumption) | cases hx
theorem refW_joins (o : OpV) (h : Small o) (l : List ByteArray) (hl : refW o = some l) : Joins l ∧ l.length ≤ 2001 ∧ ∀ x ∈ l, x.size ≤ 1000 := by
  obtain ⟨h1, h2, h3, rfl, _⟩ := refW_eq o l hl
  have hn := nums2_len o h.mn
  have hr := rest2_len o h.kn
  have hs : ∀ x ∈ wordAt o.kind.toNat :: ((numsOf o).map itoaB ++ restOf o), x.size ≤ 1000 := by
    intro x hx
    rcases List.mem_cons.1 hx with rfl | hx
    · have := word_small o.kind.toNat (by omega); omega
    · rcases List.mem_append.1 hx with hx | hx
      · obtain ⟨v, hv, rfl⟩ := List.mem_map.1 hx
        have := (fits_77t v).1 (List.all_eq_true.1 h3 v hv)
        have := itoa_size v this.1 this.2
        omega
      · exact rest_small o h x hx
  have hlen : (wordAt o.kind.toNat :: ((numsOf o).map itoaB ++ restOf o)).length ≤ 2001 := by
    rw [List.length_cons, List.length_append, List.length_map]; omega
  have hj := Wd.joinL_len 1000 _ hs
  have hj2 := Nat.le_trans hj (Nat.mul_le_mul_left _ hlen)
  exact ⟨⟨by omega, fun x hx => by have := hs x hx; omega, by omega⟩, hlen, hs⟩
theorem cut_small (s : ByteArray) (n : Nat) : (Wd.cut s n).size ≤ n := by rw [Wd.cut_size]; omega
theorem short_small (o : OpV) (near : Bool) : Small (shortT o near) := by
  have h1 := cut_small o.key 40
  have h2 := cut_small o.val 60
  have h3 := Wd.textsL_length o.keys 6 20
  have h4 := Wd.textsL_size o.keys 6 20
  have h5 : (o.mask.take 6).length ≤ 6 := List.length_take_le _ _
  cases near
  · exact ⟨by show (Wd.cut o.key 40).size ≤ 1000; omega, by show (Wd.cut o.val 60).size ≤ 1000; omega, by show (Wd.textsL o.keys 6 20).length ≤ 1000; omega, fun x hx => by have := h4 x hx; omega, by show (o.mask.take 6).length ≤ 1000; omega⟩
  · exact ⟨by show (Wd.cut o.key 40).size ≤ 1000; omega, by show (Wd.cut o.val 60).size ≤ 1000; omega, by show (Wd.textsL o.keys 6 20).length ≤ 1000; omega, fun x hx => by have := h4 x hx; omega, by show ((o.mask.take 6).map _).length ≤ 1000; rw [List.length_map]; omega⟩
end Go.Proofs.YtfaelejeihmgcaaDoor.Stp
end

section
namespace Go.Proofs.YtfaelejeihmgcaaDoor.Stp
open Go.RowKit Go.Proofs.YtfaelejeihmgcaaDoorW.PrintWords Go.Proofs.YtfaelejeihmgcaaDoorW.PrintLast
theorem opL_of_R {W : World} {b : Nat} {o : OpV} {A B : Option Addr} {c d : Nat} (h1 : Kd.R Kd.string 9 W b (fun _ => True) (.slice A o.keys.length c) o.keys) (h2 : Kd.R (Kd.int .i64) 3 W b (fun _ => True) (.slice B o.mask.length d) o.mask) : OpL W o A c B d :=
  ⟨(Kd.R_reads' h1).2.2, (Kd.R_reads' h1).2.1, (Kd.R_reads' h2).2.2, (Kd.R_reads' h2).2.1⟩
theorem R_upE {α : Type} {k : Kd α} {e g b : Nat} {W W1 : World} {v : Value} {xs : List α} (h : Kd.R k e W b (fun _ => True) v xs) (hg : W.grownBy W1 (some g)) (hb : g < b) : Kd.R k e W1 b (fun _ => True) v xs :=
  Kd.R_mono (Kd.R_grown (Kd.R_mono (ok' := fun q => b ≤ q) (Kd.R_bound h) (fun q hq => hq.2.1)) hg (fun q hq e => by have := Option.some.inj e; omega)) (fun _ _ => trivial)
set_option maxHeartbeats 16000000 in
set_option maxRecDepth 100000 in
theorem StepPrints_walk (o : OpV) (Ak : Option Addr) (ck : Nat) (Am : Option Addr) (cm : Nat) (near : Bool) (w : World) (hl : OpL w o Ak ck Am cm) (hT : TabsR w) :
    Calls Tryd.prog 15 #[.agg #[.int .i64 o.kind, .int .i64 o.s, .string o.key, .string o.val, .slice Ak o.keys.length ck, .int .i64 o.n, .slice Am o.mask.length cm, .int .i64 o.page, .int .i64 o.at_, .int .i64 o.x], .bool near] w fun e w' => e = .returned (.bool true) ∧ Below w.heap.size w w' := by
  have hO1 := OpAt.alloc hl
  have hb1 := below_alloc (Below.refl _ w) (opO o Ak ck Am cm)
  have hlt1 : w.heap.size < (w.alloc (opO o Ak ck Am cm)).heap.size := by simp
  have hsh := fun W (h : OpL W o Ak ck Am cm) => short_walk o Ak ck Am cm near W h
  have hsm := short_small o near
  clear hl
  go_enter Tryd.func15, Tryd.ntmps15
  go_upto_region 1 with (fail)
  change Code.wp _ _ _ _ (w.alloc (opO o Ak ck Am cm))
  generalize w.alloc (opO o Ak ck Am cm) = w1 at hO1 hb1 hlt1 ⊢
  have hz1 := hO1.1
  have hS := hsh w1 hO1.2
  obtain ⟨r0, r1, r2, r3, r4, r5, r6, r7, r8, r9⟩ := cells10 hz1
  clear hO1 hsh
  go_wp2_with fail
  refine hS.mono ?_
  generalize shortT o near = o' at hsm ⊢
  clear hS r0 r1 r2 r3 r4 r5 r6 r7 r8 r9
  rintro e w2 ⟨A, c, B, d, rfl, hRk, hRm, hb2⟩
  have hz2 := (hb2.block w.heap.size hlt1).trans hz1
  have hb3 := below_then hb1 hb1.size hb2
  obtain ⟨q0, q1, q2, q3, q4, q5, q6, q7, q8, q9⟩ := cells10 hz2
  obtain ⟨f0, f1, f2, f3, f4, f5, f6, f7, f8, f9⟩ := frozen10 hz2
  clear hz1 hb2 hb1
  go_upto_region 2 with (fail)
  clear q0 q1 q2 q3 q4 q5 q6 q7 q8 q9 f0 f1 f2 f3 f4 f5 f6 f7 f8 f9
  have hz3 := put10 hz2 (.int .i64 o'.kind) (.int .i64 o'.s) (.string o'.key) (.string o'.val) (.slice A o'.keys.length c) (.int .i64 o'.n) (.slice B o'.mask.length d) (.int .i64 o'.page) (.int .i64 o'.at_) (.int .i64 o'.x)
  have hg3 := grown10 w2 w.heap.size (.int .i64 o'.kind) (.int .i64 o'.s) (.string o'.key) (.string o'.val) (.slice A o'.keys.length c) (.int .i64 o'.n) (.slice B o'.mask.length d) (.int .i64 o'.page) (.int .i64 o'.at_) (.int .i64 o'.x)
  have hk3 := R_upE hRk hg3 hlt1
  have hm3 := R_upE hRm hg3 hlt1
  have hb4 := pw_below_grown hb3 _ hb3.size hg3 (fun k e => by cases e; exact Nat.le_refl _)
  generalize ((((((((((w2.setCell ⟨w.heap.size, 0, none⟩ (.int .i64 o'.kind)).setCell ⟨w.heap.size, 1, none⟩ (.int .i64 o'.s)).setCell ⟨w.heap.size, 2, none⟩ (.string o'.key)).setCell ⟨w.heap.size, 3, none⟩ (.string o'.val)).setCell ⟨w.heap.size, 4, none⟩ (.slice A o'.keys.length c)).setCell ⟨w.heap.size, 5, none⟩ (.int .i64 o'.n)).setCell ⟨w.heap.size, 6, none⟩ (.slice B o'.mask.length d)).setCell ⟨w.heap.size, 7, none⟩ (.int .i64 o'.page)).setCell ⟨w.heap.size, 8, none⟩ (.int .i64 o'.at_)).setCell ⟨w.heap.size, 9, none⟩ (.int .i64 o'.x)) = w3 at hz3 hg3 hk3 hm3 hb4 ⊢
  have hl3 := opL_of_R hk3 hm3
  have hJ : ∀ l, refW o' = some l → Joins l := fun l h => (refW_joins o' hsm l h).1
  have hp1 := step_Print_walk o' A c B d w3 hl3 (hT.below hb4).t hsm.kn hsm.mn (by rw [print_same]; exact hJ)
  have hp2 := fun W (h : OpL W o' A c B d) (ht : TabsR W) => ref_Print_walk o' A c B d W h ht hsm.kn hsm.mn hJ
  rw [show printT o' = printR (refW o') by rw [← print_same]; rfl] at hp1
  obtain ⟨⟨s, ec⟩, hs⟩ : ∃ r, printR (refW o') = r := ⟨_, rfl⟩
  rw [hs] at hp1 hp2
  clear hz2 hRk hRm hb3 hg3 hk3 hm3 hJ hs hlt1 hsm
  obtain ⟨r0, r1, r2, r3, r4, r5, r6, r7, r8, r9⟩ := cells10 hz3
  go_wp2_with fail
  refine hp1.mono ?_
  rintro e w4 ⟨rfl, hb5⟩
  have hz4 := (hb5.block w.heap.size (blk_lt hz3)).trans hz3
  have hl4 := hl3.below hb5
  have hb6 := below_then hb4 hb4.size hb5
  clear r0 r1 r2 r3 r4 r5 r6 r7 r8 r9 hz3 hl3 hb4 hb5 hp1
  obtain ⟨r0, r1, r2, r3, r4, r5, r6, r7, r8, r9⟩ := cells10 hz4
  go_wp2_with fail
  refine (hp2 w4 hl4 (hT.below hb6)).mono ?_
  rintro e w5 ⟨rfl, hb7⟩
  have hb8 := below_then hb6 hb6.size hb7
  clear r0 r1 r2 r3 r4 r5 r6 r7 r8 r9 hz4 hl4 hb6 hb7 hp2
  go_wp2_with fail
  refine (alive_walk w5 (hT.below hb8).t).mono ?_
  rintro e w6 ⟨rfl, hb9⟩
  have HB := Lib.hid (below_then hb8 hb8.size hb9)
  clear hb8 hb9
  go_wp2
  go_ret
  exact ⟨rfl, HB.out⟩
end Go.Proofs.YtfaelejeihmgcaaDoor.Stp
end
