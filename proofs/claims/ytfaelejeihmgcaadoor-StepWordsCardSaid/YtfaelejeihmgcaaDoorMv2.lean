/-
  Texts of mine, and texts that print.sh and pp.py wrote, merged and cut to what is used: HandSf, PureP2, Wd3, Wd4
-/
import Derived.Test.YtfaelejeihmgcaaDoorProg
import Derived.Below
import Derived.Shelf.Unicode.DecodeSlow
import Derived.Lib.ItoaMem
import Derived.Lib.LaidTab
import Derived.Test.YtfaelejeihmgcaaDoorCards
import Derived.Test.YtfaelejeihmgcaaDoorTie
import Derived.Lib.LaidU8T
import Derived.PinnedBridge
import Derived.LaidMore
import Derived.Lay
import Derived.ProofKit
import Derived.OpenShut
import Derived.SevenTiedAt
import Derived.Stop.Joined
import Derived.Deep.DeepHandedRow
import Derived.Deep.Draws
import Derived.Deep.AppendLies
import Derived.Maps.AppendAt
import Derived.OwnWalk
import Derived.Laws.BytesArg
import Derived.Laws.MakeOwn
import Derived.Laws.OwnMore
import Derived.Deep.OwnRows
import Derived.Tactics
import Derived.Lib.ConvBytes
import Derived.Laws.Slices
import Derived.WalkKit
import Derived.KernelRfl
import Derived.RowKit3
import Derived.Deep.LoopGhost
import Derived.Deep.QuietTactic
import Derived.BigQuiet
import Derived.WideLaws
import Derived.Deep.DeepCutAuto
import Derived.Deep.CutBlock
import Derived.Deep.RegionHeld3
import Derived.Laws.Rows
import Derived.Lib.AppendStr
import Derived.ArgAppend
import Derived.Laws.IdiomCopy
import Derived.RowKit
import Derived.Test.YtfaelejeihmgcaaDoorRows
import Derived.ChangeArms
import Derived.DataReads
import Derived.DataElems
import Derived.Shelf.Strings.Builder1
import Derived.Shelf.Strings.Builder2
import Derived.Shelf.Strings.OnBuilder
import Derived.Shelf.Strings.BuilderF
import Derived.Shelf.Strings.BuilderK
import Derived.Shelf.Strings.Builder2Cap
import Derived.Shelf.Strconv.Atoi
import Derived.Shelf.Strconv.Itoa0
import Derived.Shelf.Strconv.Itoa1
import Derived.Shelf.LaysM
import Derived.Shelf.Strconv.Itoa2
import Derived.Shelf.Strconv.Itoa3
import Derived.Shelf.Strconv.AtoiErrFast
import Derived.Shelf.Strconv.ParseIntEmpty
import Derived.Shelf.Strconv.AtoiFail
import Derived.Shelf.Strconv.Clone
import Derived.Shelf.Strconv.SyntaxError
import Derived.Shelf.LaysC
import Derived.Shelf.Strconv.ToError
import Derived.Shelf.Strconv.Lower
import Derived.Shelf.Strconv.ParseUint10
import Derived.Shelf.Strconv.ParseUint10Empty
import Derived.Shelf.Strconv.ParseUint10Any
import Derived.Shelf.Strconv.ParseInt10
import Derived.Shelf.Strconv.AtoiLong
import Derived.Shelf.Strconv.AtoiInnerAll
import Derived.Shelf.Strconv.RangeError
import Derived.Shelf.Strconv.ToErrorRange
import Derived.Shelf.Strconv.AtoiAll
import Derived.Shelf.Strconv.ErrVarAll
import Derived.Shelf.Strconv.ParseUintEmpty
import Derived.Shelf.Strconv.ParseUint10b64
import Derived.Shelf.Strconv.ParseUint10b32
import Derived.Shelf.Strconv.ParseUint10b16
import Derived.Shelf.Strconv.ParseUint10b8
import Derived.Shelf.Strings.Prefix
import Derived.Shelf.Unicode.Decode
import Derived.Shelf.Unicode.DecodeAny
import Derived.Lib.AppendIntMem
import Derived.FnData
import Derived.Outline
import Derived.Tactics2
import Derived.OrdersHeld
import Derived.Laws.BitsLemmas
import Derived.Laws.StructEq
import Derived.Lib.AtoiTie
import Derived.Lib.Strings
import Derived.Lib.Slices
import Derived.Lib.Walk
import Derived.Lib.Builder
import Derived.Lib.UnsafeStr
import Derived.Laws.Externs
import Derived.Lib.DecodeNEq
import Derived.Lib.OthersKept
import Derived.Lib.Hide
import Derived.BigCall
import Derived.StillTailTactics
import Derived.BigRegion
import Derived.RegionTactic
import Derived.IntWalk
import Derived.WalkSpells
import Derived.Laws.Pointers
import Derived.Deep.RegionWith
import Derived.Test.YtfaelejeihmgcaaDoorMv0
import Derived.Test.YtfaelejeihmgcaaDoorMv1

section
namespace Go.Proofs.YtfaelejeihmgcaaDoor.Stp
open Go.RowKit Go.Proofs.YtfaelejeihmgcaaDoorW.PrintWords Go.Proofs.YtfaelejeihmgcaaDoorW.PrintLast
def wordAt (i : Nat) : ByteArray := ⟨(wordsL.getD i []).toArray⟩
/-- the last of the words 1 to n less 1 that is x; 0: none -/
def refK (x : ByteArray) : Nat → Nat
  | 0 => 0
  | n + 1 => if 1 ≤ n ∧ (wordAt n).toList = x.toList then n else refK x n
def numberT (x : ByteArray) : Int × Bool := (cachepotref3_number.f 100 x).getD (0, false)
def numbersT (t : List ByteArray) : List Int × Bool := (cachepotref3_numbers.f (t.length + 200) t).getD ([], false)
def refStepF (l : List ByteArray) : OpV × Bool :=
  if l.length = 0 then (zeroOp 0, false) else
  let x := l.headD ⟨#[]⟩
  let t := l.tail
  let k := refK x 15
  if k = 1 ∨ k = 7 ∨ k = 10 ∨ k = 14 then (zeroOp k, decide (t.length = 0))
  else if k = 8 ∨ k = 9 then (if t.length = 1 then ({ zeroOp k with key := t.headD ⟨#[]⟩ }, true) else (zeroOp 0, false))
  else if k = 12 then ({ zeroOp k with mask := (numbersT t).1 }, (numbersT t).2)
  else if k = 13 then (if (numbersT t).2 = true ∧ (numbersT t).1.length = 3 ∧ 0 ≤ (numbersT t).1.getD 2 0 ∧ (numbersT t).1.getD 2 0 ≤ 255 then ({ zeroOp k with page := (numbersT t).1.getD 0 0, at_ := (numbersT t).1.getD 1 0, x := (numbersT t).1.getD 2 0 }, true) else (zeroOp 0, false))
  else if k = 11 then (if (numbersT t).2 = true ∧ (numbersT t).1.length = 1 then ({ zeroOp k with n := (numbersT t).1.getD 0 0 }, true) else (zeroOp 0, false))
  else if k = 2 ∨ k = 3 ∨ k = 4 ∨ k = 5 ∨ k = 6 then
    (if t.length = 0 then (zeroOp 0, false) else
      let s := (numberT (t.headD ⟨#[]⟩)).1
      let ok := (numberT (t.headD ⟨#[]⟩)).2
      let u := t.tail
      if k = 2 then (if ok = true ∧ u.length = 2 then ({ zeroOp k with s := s, key := u.headD ⟨#[]⟩, val := u.tail.headD ⟨#[]⟩ }, true) else (zeroOp 0, false))
      else if k = 3 then (if ok = true ∧ u.length = 1 then ({ zeroOp k with s := s, key := u.headD ⟨#[]⟩ }, true) else (zeroOp 0, false))
      else if k = 4 then ({ zeroOp k with s := s, keys := u }, ok)
      else ({ zeroOp k with s := s }, ok && decide (u.length = 0)))
  else (zeroOp 0, false)
theorem refK_lt (x : ByteArray) : ∀ n : Nat, 1 ≤ n → refK x n < n
  | 0, h => by omega
  | 1, _ => by
    rw [refK, if_neg (by omega), refK]
    exact Nat.lt_succ_self _
  | n + 2, _ => by
    rw [refK]
    split
    · omega
    · have := refK_lt x (n + 1) (by omega)
      omega
/-- what stands behind the reference's reading of words -/
def RefStepped (w : World) (r : OpV × Bool) (en : Ending) (w' : World) : Prop :=
  ∃ vk vm, en = .returned (.tuple #[.agg (opC r.1 vk vm), .bool r.2]) ∧ Kd.R Kd.string 9 w' w.heap.size (fun _ => True) vk r.1.keys ∧ Kd.R (Kd.int .i64) 3 w' w.heap.size (fun _ => True) vm r.1.mask ∧ Below w.heap.size w w'
theorem word_cell (k : Nat) (h : k < 15) : (wordsL.map fun z => Value.string ⟨z.toArray⟩).toArray[k]? = some (Value.string (wordAt k)) := by
  have hl : wordsL.length = 15 := rfl
  have e : wordsL[k]? = some (wordsL.getD k []) := by
    rw [List.getD_eq_getElem?_getD, List.getElem?_eq_getElem (by omega)]
    rfl
  unfold wordAt
  rw [List.getElem?_toArray, List.getElem?_map, e]
  rfl
set_option maxHeartbeats 16000000 in
set_option maxRecDepth 100000 in
theorem ref_step_walk (A : Option Addr) (c : Nat) (l : List ByteArray) (w : World) (hC : Kd.C Kd.string w A l.length l) (hc : l.length ≤ c) (hl : l.length ≤ 1048576) (hs : ∀ x ∈ l, x.size ≤ 1099511627776) (hT : TabsR w)
    (hnum : ∀ x ∈ l, cachepotref3_number.f 100 x = some (numberT x)) (hnums : cachepotref3_numbers.f (l.tail.length + 200) l.tail = some (numbersT l.tail)) :
    Calls Tryd.prog 83 #[.slice A l.length c] w (RefStepped w (refStepF l)) := by
  obtain ⟨R, hR⟩ : ∃ R, R = refStepF l := ⟨_, rfl⟩
  rw [← hR]
  have HR := Lib.hid hR
  have Hc := Lib.hid hc
  have Hnum := Lib.hid hnum
  have Hnums := Lib.hid hnums
  have hz := heap_alloc_new w (.cells (opC (zeroOp 0) nilV nilV) 61)
  have hb1 := below_alloc (Below.refl _ w) (.cells (opC (zeroOp 0) nilV nilV) 61)
  have hsz1 : (w.alloc (.cells (opC (zeroOp 0) nilV nilV) 61)).heap.size = w.heap.size + 1 := by simp
  clear hR hc hnum hnums
  obtain ⟨m1, hm1⟩ : ∃ m1, l.length = m1 := ⟨_, rfl⟩
  rw [hm1]
  have Hm1 := Lib.hid hm1
  clear hm1
  by_cases hl0 : m1 = 0
  · subst hl0
    have hRe : R = (zeroOp 0, false) := by rw [HR.out, refStepF, if_pos Hm1.out]
    have HRe := Lib.hid hRe
    clear hRe
    generalize hw1 : w.alloc (.cells (opC (zeroOp 0) nilV nilV) 61) = w1 at hz hb1 hsz1
    have Hw1 := Lib.hid hw1
    clear hw1
    obtain ⟨r0, r1, r2, r3, r4, r5, r6, r7, r8, r9⟩ := cells10 hz
    obtain ⟨rf0, rf1, rf2, rf3, rf4, rf5, rf6, rf7, rf8, rf9⟩ := frozen10 hz
    go_enter Tryd.func83, Tryd.ntmps83
    go_upto_region 2 with (fail)
    change Code.wp _ _ _ _ (w.alloc (.cells (opC (zeroOp 0) nilV nilV) 61))
    rw [Hw1.out]
    go_wp2
    clear r0 r1 r2 r3 r4 r5 r6 r7 r8 r9 rf0 rf1 rf2 rf3 rf4 rf5 rf6 rf7 rf8 rf9
    have hz9 := put10 hz (.int .i64 0) (.int .i64 0) (.string ⟨#[]⟩) (.string ⟨#[]⟩) (.slice none 0 0) (.int .i64 0) (.slice none 0 0) (.int .i64 0) (.int .i64 0) (.int .i64 0)
    have hg9 := grown10 w1 w.heap.size (.int .i64 0) (.int .i64 0) (.string ⟨#[]⟩) (.string ⟨#[]⟩) (.slice none 0 0) (.int .i64 0) (.slice none 0 0) (.int .i64 0) (.int .i64 0) (.int .i64 0)
    generalize ((((((((((w1.setCell ⟨w.heap.size, 0, none⟩ (.int .i64 0)).setCell ⟨w.heap.size, 1, none⟩ (.int .i64 0)).setCell ⟨w.heap.size, 2, none⟩ (.string ⟨#[]⟩)).setCell ⟨w.heap.size, 3, none⟩ (.string ⟨#[]⟩)).setCell ⟨w.heap.size, 4, none⟩ (.slice none 0 0)).setCell ⟨w.heap.size, 5, none⟩ (.int .i64 0)).setCell ⟨w.heap.size, 6, none⟩ (.slice none 0 0)).setCell ⟨w.heap.size, 7, none⟩ (.int .i64 0)).setCell ⟨w.heap.size, 8, none⟩ (.int .i64 0)).setCell ⟨w.heap.size, 9, none⟩ (.int .i64 0)) = w9 at hz9 hg9 ⊢
    obtain ⟨s0, s1, s2, s3, s4, s5, s6, s7, s8, s9⟩ := cells10 hz9
    have hb9 := pw_below_grown hb1 _ hb1.size hg9 (fun k e => by cases e; exact Nat.le_refl _)
    refine bodyPost_ret (v := .tuple #[.agg #[.int .i64 0, .int .i64 0, .string ⟨#[]⟩, .string ⟨#[]⟩, .slice none 0 0, .int .i64 0, .slice none 0 0, .int .i64 0, .int .i64 0, .int .i64 0], .bool false]) (by simp [results, Tryd.results83, go_sem, s0, s1, s2, s3, s4, s5, s6, s7, s8, s9]) rfl ?_
    exact ⟨.slice none 0 0, .slice none 0 0, by rw [HRe.out]; rfl, by rw [HRe.out]; exact Kd.R_nil _ _ _ _ _, by rw [HRe.out]; exact Kd.R_nil _ _ _ _ _, hb9⟩
  · obtain ⟨x, t, rfl⟩ : ∃ x t, l = x :: t := by
      cases l with
      | nil => exact absurd Hm1.out.symm hl0
      | cons x t => exact ⟨x, t, rfl⟩
    have hml : m1 = t.length + 1 := by have := Hm1.out; rw [List.length_cons] at this; omega
    have hm0 : 0 < m1 := by omega
    obtain ⟨adw, ew, c0⟩ := Kd.at_string hC 0 (by decide) (by simp only [List.length_cons]; omega)
    cases ew
    have c00 : w.cell? adw = some (.string x) := by
      have h := c0
      rw [show adw.add (0 : Int).toNat = adw by simp [Addr.add]] at h
      exact h
    have t1 : ((m1 : Int) == 0) = false := beq_eq_false_iff_ne.2 (by omega)
    have Hml := Lib.hid hml
    clear c0 hl0 hml
    generalize hw1 : w.alloc (.cells (opC (zeroOp 0) nilV nilV) 61) = w1 at hz hb1 hsz1
    have Hw1 := Lib.hid hw1
    clear hw1
    have hz2 := heap_alloc_new w1 (.cells (opC (zeroOp 0) nilV nilV) 61)
    have hb2 := below_alloc hb1 (.cells (opC (zeroOp 0) nilV nilV) 61)
    have hsz2 : (w1.alloc (.cells (opC (zeroOp 0) nilV nilV) 61)).heap.size = w1.heap.size + 1 := by simp
    have hy2 : (w1.alloc (.cells (opC (zeroOp 0) nilV nilV) 61)).heap[w.heap.size]? = some (.cells (opC (zeroOp 0) nilV nilV) 61) := (Lib.alloc_old w1 _ _ (Array.getElem?_eq_some_iff.1 hz).1).trans hz
    generalize hw2 : w1.alloc (.cells (opC (zeroOp 0) nilV nilV) 61) = w2 at hz2 hb2 hsz2 hy2
    have Hw2 := Lib.hid hw2
    clear hw2
    go_enter Tryd.func83, Tryd.ntmps83
    go_upto_region 3 with (fail)
    change Code.wp _ _ _ _ (w.alloc (.cells (opC (zeroOp 0) nilV nilV) 61))
    rw [Hw1.out]
    go_wp2
    go_loopw [5] (fun i wr => ∃ k : Nat, 1 ≤ k ∧ k ≤ 15 ∧ i = .int .i64 k ∧ Below w.heap.size w wr ∧ wr.heap[w.heap.size + 1]? = some (.cells (opC (zeroOp (refK x k)) nilV nilV) 61) ∧ wr.heap[w.heap.size]? = some (.cells (opC (zeroOp 0) nilV nilV) 61)) (fun i _ => 15 - (intOf i).toNat)
    case atStart =>
      refine ⟨1, Nat.le_refl _, by decide, rfl, ?_⟩
      rw [show refK x 1 = 0 by rw [refK, if_neg (by omega), refK]]
      change Below _ w (w1.alloc (.cells (opC (zeroOp 0) nilV nilV) 61)) ∧ (w1.alloc (.cells (opC (zeroOp 0) nilV nilV) 61)).heap[_]? = _ ∧ (w1.alloc (.cells (opC (zeroOp 0) nilV nilV) 61)).heap[_]? = _
      rw [Hw2.out]
      exact ⟨hb2, by rw [← hsz1]; exact hz2, hy2⟩
    case round =>
      obtain ⟨k, hk1, hk15, rfl, hbi, hzk, hyi⟩ := hrel
      by_cases hlt : k < 15
      rotate_left
      · obtain rfl : k = 15 := by omega
        have hCt := Kd.C_drop (c := c) (m := 1) hC (by rw [List.length_cons]; omega) Hc.out
        rw [show (Kd.string).sz = 1 from rfl, Nat.one_mul] at hCt
        obtain ⟨TA, hTA⟩ : ∃ TA, (if c = 1 then some adw else (some adw).map (·.add 1)) = TA := ⟨_, rfl⟩
        rw [hTA] at hCt
        change Kd.C Kd.string w TA t.length t at hCt
        have hct : t.length ≤ c - 1 := by have := Hc.out; rw [List.length_cons] at this; omega
        have hnums := fun (W : World) (hW : Below w.heap.size w W) => cachepotref3_numbers.calls (t.length + 200) TA (c - 1) t (numbersT t).1 (numbersT t).2 W (Kd.C_below hCt hW) hct Hnums.out
        have hcm : m1 ≤ c := by have := Hc.out; rw [Hm1.out] at this; exact this
        have hml := Hml.out
        obtain ⟨m2, hm2⟩ : ∃ m2, t.length = m2 := ⟨_, rfl⟩
        have hm2l : m2 ≤ 1048576 := by rw [List.length_cons] at hl; omega
        rw [hm2] at hCt hnums hct
        have hsl : ∀ W, (Instr.slice 22 (.slice (some adw) m1 c) (some (.int .i64 1)) none none).run Tryd.prog W = .ok (.slice TA m2 (c - 1)) W := fun W => by
          have h := slice_tail22 (some adw) m1 c 1 (by omega) W
          rw [hTA, show m1 - 1 = m2 by omega] at h
          exact h
        have Hm2 := Lib.hid hm2
        have Hct := Lib.hid hct
        have hk := refK_lt x 15 (by decide)
        obtain ⟨kk, hkk⟩ : ∃ kk, refK x 15 = kk := ⟨_, rfl⟩
        have hrf := HR.out
        simp only [refStepF, List.headD_cons, List.tail_cons, hkk] at hrf
        rw [if_neg (by simp)] at hrf
        have Hrf := Lib.hid hrf
        rw [hkk] at hzk hk
        clear hTA hcm hml hm2 hct hkk hrf HR hl
        rcases (by omega : kk = 0 ∨ kk = 1 ∨ kk = 2 ∨ kk = 3 ∨ kk = 4 ∨ kk = 5 ∨ kk = 6 ∨ kk = 7 ∨ kk = 8 ∨ kk = 9 ∨ kk = 10 ∨ kk = 11 ∨ kk = 12 ∨ kk = 13 ∨ kk = 14) with rfl | rfl | rfl | rfl | rfl | rfl | rfl | rfl | rfl | rfl | rfl | rfl | rfl | rfl | rfl
        · have hRe : R = (zeroOp 0, false) := Hrf.out
          have HRe := Lib.hid hRe
          clear hRe
          have hz4 : wr.heap[w.heap.size + 1]? = some (.cells #[.int .i64 0, .int .i64 0, .string ⟨#[]⟩, .string ⟨#[]⟩, .slice none 0 0, .int .i64 0, .slice none 0 0, .int .i64 0, .int .i64 0, .int .i64 0] 61) := hzk
          obtain ⟨p0, p1, p2, p3, p4, p5, p6, p7, p8, p9⟩ := cells10 hz4
          obtain ⟨pf0, pf1, pf2, pf3, pf4, pf5, pf6, pf7, pf8, pf9⟩ := frozen10 hz4
          obtain ⟨r0, r1, r2, r3, r4, r5, r6, r7, r8, r9⟩ := cells10 hyi
          obtain ⟨rf0, rf1, rf2, rf3, rf4, rf5, rf6, rf7, rf8, rf9⟩ := frozen10 hyi
          go_wp2
          clear p0 p1 p2 p3 p4 p5 p6 p7 p8 p9 pf0 pf1 pf2 pf3 pf4 pf5 pf6 pf7 pf8 pf9
          clear r0 r1 r2 r3 r4 r5 r6 r7 r8 r9 rf0 rf1 rf2 rf3 rf4 rf5 rf6 rf7 rf8 rf9
          have hz9 := put10 hyi (.int .i64 0) (.int .i64 0) (.string ⟨#[]⟩) (.string ⟨#[]⟩) (.slice none 0 0) (.int .i64 0) (.slice none 0 0) (.int .i64 0) (.int .i64 0) (.int .i64 0)
          have hg9 := grown10 wr w.heap.size (.int .i64 0) (.int .i64 0) (.string ⟨#[]⟩) (.string ⟨#[]⟩) (.slice none 0 0) (.int .i64 0) (.slice none 0 0) (.int .i64 0) (.int .i64 0) (.int .i64 0)
          generalize ((((((((((wr.setCell ⟨w.heap.size, 0, none⟩ (.int .i64 0)).setCell ⟨w.heap.size, 1, none⟩ (.int .i64 0)).setCell ⟨w.heap.size, 2, none⟩ (.string ⟨#[]⟩)).setCell ⟨w.heap.size, 3, none⟩ (.string ⟨#[]⟩)).setCell ⟨w.heap.size, 4, none⟩ (.slice none 0 0)).setCell ⟨w.heap.size, 5, none⟩ (.int .i64 0)).setCell ⟨w.heap.size, 6, none⟩ (.slice none 0 0)).setCell ⟨w.heap.size, 7, none⟩ (.int .i64 0)).setCell ⟨w.heap.size, 8, none⟩ (.int .i64 0)).setCell ⟨w.heap.size, 9, none⟩ (.int .i64 0)) = w9 at hz9 hg9 ⊢
          obtain ⟨s0, s1, s2, s3, s4, s5, s6, s7, s8, s9⟩ := cells10 hz9
          have hb9 := pw_below_grown hbi _ hbi.size hg9 (fun k e => by cases e; exact Nat.le_refl _)
          refine bodyPost_ret (v := .tuple #[.agg #[.int .i64 0, .int .i64 0, .string ⟨#[]⟩, .string ⟨#[]⟩, .slice none 0 0, .int .i64 0, .slice none 0 0, .int .i64 0, .int .i64 0, .int .i64 0], .bool false]) (by simp [results, Tryd.results83, go_sem, s0, s1, s2, s3, s4, s5, s6, s7, s8, s9]) rfl ?_
          exact ⟨.slice none 0 0, .slice none 0 0, by rw [HRe.out]; rfl, by rw [HRe.out]; exact Kd.R_nil _ _ _ _ _, by rw [HRe.out]; exact Kd.R_nil _ _ _ _ _, hb9⟩
        · have hz4 : wr.heap[w.heap.size + 1]? = some (.cells #[.int .i64 1, .int .i64 0, .string ⟨#[]⟩, .string ⟨#[]⟩, .slice none 0 0, .int .i64 0, .slice none 0 0, .int .i64 0, .int .i64 0, .int .i64 0] 61) := hzk
          obtain ⟨p0, p1, p2, p3, p4, p5, p6, p7, p8, p9⟩ := cells10 hz4
          obtain ⟨pf0, pf1, pf2, pf3, pf4, pf5, pf6, pf7, pf8, pf9⟩ := frozen10 hz4
          obtain ⟨r0, r1, r2, r3, r4, r5, r6, r7, r8, r9⟩ := cells10 hyi
          obtain ⟨rf0, rf1, rf2, rf3, rf4, rf5, rf6, rf7, rf8, rf9⟩ := frozen10 hyi
          by_cases h0 : m2 = 0
          · subst h0
            have hRe : R = (zeroOp 1, true) := by rw [show R = (zeroOp 1, decide (t.length = 0)) from Hrf.out, decide_eq_true Hm2.out]
            have HRe := Lib.hid hRe
            clear hRe
            go_wp2
            clear p0 p1 p2 p3 p4 p5 p6 p7 p8 p9 pf0 pf1 pf2 pf3 pf4 pf5 pf6 pf7 pf8 pf9
            clear r0 r1 r2 r3 r4 r5 r6 r7 r8 r9 rf0 rf1 rf2 rf3 rf4 rf5 rf6 rf7 rf8 rf9
            have hz9 := put10 hyi (.int .i64 1) (.int .i64 0) (.string ⟨#[]⟩) (.string ⟨#[]⟩) (.slice none 0 0) (.int .i64 0) (.slice none 0 0) (.int .i64 0) (.int .i64 0) (.int .i64 0)
            have hg9 := grown10 wr w.heap.size (.int .i64 1) (.int .i64 0) (.string ⟨#[]⟩) (.string ⟨#[]⟩) (.slice none 0 0) (.int .i64 0) (.slice none 0 0) (.int .i64 0) (.int .i64 0) (.int .i64 0)
            generalize ((((((((((wr.setCell ⟨w.heap.size, 0, none⟩ (.int .i64 1)).setCell ⟨w.heap.size, 1, none⟩ (.int .i64 0)).setCell ⟨w.heap.size, 2, none⟩ (.string ⟨#[]⟩)).setCell ⟨w.heap.size, 3, none⟩ (.string ⟨#[]⟩)).setCell ⟨w.heap.size, 4, none⟩ (.slice none 0 0)).setCell ⟨w.heap.size, 5, none⟩ (.int .i64 0)).setCell ⟨w.heap.size, 6, none⟩ (.slice none 0 0)).setCell ⟨w.heap.size, 7, none⟩ (.int .i64 0)).setCell ⟨w.heap.size, 8, none⟩ (.int .i64 0)).setCell ⟨w.heap.size, 9, none⟩ (.int .i64 0)) = w9 at hz9 hg9 ⊢
            obtain ⟨s0, s1, s2, s3, s4, s5, s6, s7, s8, s9⟩ := cells10 hz9
            have hb9 := pw_below_grown hbi _ hbi.size hg9 (fun k e => by cases e; exact Nat.le_refl _)
            refine bodyPost_ret (v := .tuple #[.agg #[.int .i64 1, .int .i64 0, .string ⟨#[]⟩, .string ⟨#[]⟩, .slice none 0 0, .int .i64 0, .slice none 0 0, .int .i64 0, .int .i64 0, .int .i64 0], .bool true]) (by simp [results, Tryd.results83, go_sem, s0, s1, s2, s3, s4, s5, s6, s7, s8, s9]) rfl ?_
            exact ⟨.slice none 0 0, .slice none 0 0, by rw [HRe.out]; rfl, by rw [HRe.out]; exact Kd.R_nil _ _ _ _ _, by rw [HRe.out]; exact Kd.R_nil _ _ _ _ _, hb9⟩
          · have t2 : ((m2 : Int) == 0) = false := beq_eq_false_iff_ne.2 (by omega)
            have hRe : R = (zeroOp 1, false) := by rw [show R = (zeroOp 1, decide (t.length = 0)) from Hrf.out, decide_eq_false (by rw [Hm2.out]; exact h0)]
            have HRe := Lib.hid hRe
            clear hRe h0
            go_wp2
            clear p0 p1 p2 p3 p4 p5 p6 p7 p8 p9 pf0 pf1 pf2 pf3 pf4 pf5 pf6 pf7 pf8 pf9
            clear r0 r1 r2 r3 r4 r5 r6 r7 r8 r9 rf0 rf1 rf2 rf3 rf4 rf5 rf6 rf7 rf8 rf9
            have hz9 := put10 hyi (.int .i64 1) (.int .i64 0) (.string ⟨#[]⟩) (.string ⟨#[]⟩) (.slice none 0 0) (.int .i64 0) (.slice none 0 0) (.int .i64 0) (.int .i64 0) (.int .i64 0)
            have hg9 := grown10 wr w.heap.size (.int .i64 1) (.int .i64 0) (.string ⟨#[]⟩) (.string ⟨#[]⟩) (.slice none 0 0) (.int .i64 0) (.slice none 0 0) (.int .i64 0) (.int .i64 0) (.int .i64 0)
            generalize ((((((((((wr.setCell ⟨w.heap.size, 0, none⟩ (.int .i64 1)).setCell ⟨w.heap.size, 1, none⟩ (.int .i64 0)).setCell ⟨w.heap.size, 2, none⟩ (.string ⟨#[]⟩)).setCell ⟨w.heap.size, 3, none⟩ (.string ⟨#[]⟩)).setCell ⟨w.heap.size, 4, none⟩ (.slice none 0 0)).setCell ⟨w.heap.size, 5, none⟩ (.int .i64 0)).setCell ⟨w.heap.size, 6, none⟩ (.slice none 0 0)).setCell ⟨w.heap.size, 7, none⟩ (.int .i64 0)).setCell ⟨w.heap.size, 8, none⟩ (.int .i64 0)).setCell ⟨w.heap.size, 9, none⟩ (.int .i64 0)) = w9 at hz9 hg9 ⊢
            obtain ⟨s0, s1, s2, s3, s4, s5, s6, s7, s8, s9⟩ := cells10 hz9
            have hb9 := pw_below_grown hbi _ hbi.size hg9 (fun k e => by cases e; exact Nat.le_refl _)
            refine bodyPost_ret (v := .tuple #[.agg #[.int .i64 1, .int .i64 0, .string ⟨#[]⟩, .string ⟨#[]⟩, .slice none 0 0, .int .i64 0, .slice none 0 0, .int .i64 0, .int .i64 0, .int .i64 0], .bool false]) (by simp [results, Tryd.results83, go_sem, s0, s1, s2, s3, s4, s5, s6, s7, s8, s9]) rfl ?_
            exact ⟨.slice none 0 0, .slice none 0 0, by rw [HRe.out]; rfl, by rw [HRe.out]; exact Kd.R_nil _ _ _ _ _, by rw [HRe.out]; exact Kd.R_nil _ _ _ _ _, hb9⟩
        · have hz4 : wr.heap[w.heap.size + 1]? = some (.cells #[.int .i64 2, .int .i64 0, .string ⟨#[]⟩, .string ⟨#[]⟩, .slice none 0 0, .int .i64 0, .slice none 0 0, .int .i64 0, .int .i64 0, .int .i64 0] 61) := hzk
          obtain ⟨p0, p1, p2, p3, p4, p5, p6, p7, p8, p9⟩ := cells10 hz4
          obtain ⟨pf0, pf1, pf2, pf3, pf4, pf5, pf6, pf7, pf8, pf9⟩ := frozen10 hz4
          obtain ⟨r0, r1, r2, r3, r4, r5, r6, r7, r8, r9⟩ := cells10 hyi
          obtain ⟨rf0, rf1, rf2, rf3, rf4, rf5, rf6, rf7, rf8, rf9⟩ := frozen10 hyi
          by_cases h0 : m2 = 0
          · have hRe : R = (zeroOp 0, false) := by
              obtain rfl : t = [] := List.length_eq_zero_iff.1 (by rw [Hm2.out]; exact h0)
              exact Hrf.out
            have HRe := Lib.hid hRe
            clear hRe
            subst h0
            go_wp2
            clear p0 p1 p2 p3 p4 p5 p6 p7 p8 p9 pf0 pf1 pf2 pf3 pf4 pf5 pf6 pf7 pf8 pf9
            clear r0 r1 r2 r3 r4 r5 r6 r7 r8 r9 rf0 rf1 rf2 rf3 rf4 rf5 rf6 rf7 rf8 rf9
            have hz9 := put10 hyi (.int .i64 0) (.int .i64 0) (.string ⟨#[]⟩) (.string ⟨#[]⟩) (.slice none 0 0) (.int .i64 0) (.slice none 0 0) (.int .i64 0) (.int .i64 0) (.int .i64 0)
            have hg9 := grown10 wr w.heap.size (.int .i64 0) (.int .i64 0) (.string ⟨#[]⟩) (.string ⟨#[]⟩) (.slice none 0 0) (.int .i64 0) (.slice none 0 0) (.int .i64 0) (.int .i64 0) (.int .i64 0)
            generalize ((((((((((wr.setCell ⟨w.heap.size, 0, none⟩ (.int .i64 0)).setCell ⟨w.heap.size, 1, none⟩ (.int .i64 0)).setCell ⟨w.heap.size, 2, none⟩ (.string ⟨#[]⟩)).setCell ⟨w.heap.size, 3, none⟩ (.string ⟨#[]⟩)).setCell ⟨w.heap.size, 4, none⟩ (.slice none 0 0)).setCell ⟨w.heap.size, 5, none⟩ (.int .i64 0)).setCell ⟨w.heap.size, 6, none⟩ (.slice none 0 0)).setCell ⟨w.heap.size, 7, none⟩ (.int .i64 0)).setCell ⟨w.heap.size, 8, none⟩ (.int .i64 0)).setCell ⟨w.heap.size, 9, none⟩ (.int .i64 0)) = w9 at hz9 hg9 ⊢
            obtain ⟨s0, s1, s2, s3, s4, s5, s6, s7, s8, s9⟩ := cells10 hz9
            have hb9 := pw_below_grown hbi _ hbi.size hg9 (fun k e => by cases e; exact Nat.le_refl _)
            refine bodyPost_ret (v := .tuple #[.agg #[.int .i64 0, .int .i64 0, .string ⟨#[]⟩, .string ⟨#[]⟩, .slice none 0 0, .int .i64 0, .slice none 0 0, .int .i64 0, .int .i64 0, .int .i64 0], .bool false]) (by simp [results, Tryd.results83, go_sem, s0, s1, s2, s3, s4, s5, s6, s7, s8, s9]) rfl ?_
            exact ⟨.slice none 0 0, .slice none 0 0, by rw [HRe.out]; rfl, by rw [HRe.out]; exact Kd.R_nil _ _ _ _ _, by rw [HRe.out]; exact Kd.R_nil _ _ _ _ _, hb9⟩
          · obtain ⟨y, u, rfl⟩ : ∃ y u, t = y :: u := by
              cases t with
              | nil => exact absurd Hm2.out (by simp only [List.length_nil]; exact fun h => h0 h.symm)
              | cons y u => exact ⟨y, u, rfl⟩
            obtain ⟨adt, et, c1⟩ := Kd.at_string (Kd.C_below hCt hbi) 0 (by decide) (by omega)
            subst et
            have c10 : wr.cell? adt = some (.string y) := by
              have h := c1
              rw [show adt.add (0 : Int).toNat = adt by simp [Addr.add]] at h
              exact h
            clear c1
            have hCt2 : Kd.C Kd.string w (some adt) (y :: u).length (y :: u) := by rw [Hm2.out]; exact hCt
            have hct1 : (y :: u).length ≤ c - 1 := by rw [Hm2.out]; exact Hct.out
            have hCu := Kd.C_drop (c := c - 1) (m := 1) hCt2 (by rw [List.length_cons]; omega) hct1
            rw [show (Kd.string).sz = 1 from rfl, Nat.one_mul] at hCu
            obtain ⟨TU, hTU⟩ : ∃ TU, (if c - 1 = 1 then some adt else (some adt).map (·.add 1)) = TU := ⟨_, rfl⟩
            rw [hTU] at hCu
            change Kd.C Kd.string w TU u.length u at hCu
            obtain ⟨m3, hm3⟩ : ∃ m3, u.length = m3 := ⟨_, rfl⟩
            rw [hm3] at hCu
            have hm23 : m2 = m3 + 1 := by rw [← Hm2.out, List.length_cons, hm3]
            have hsu : ∀ W, (Instr.slice 22 (.slice (some adt) m2 (c - 1)) (some (.int .i64 1)) none none).run Tryd.prog W = .ok (.slice TU m3 (c - 1 - 1)) W := fun W => by
              have h := slice_tail22 (some adt) m2 (c - 1) 1 (by omega) W
              rw [hTU, show m2 - 1 = m3 by omega] at h
              exact h
            have Hm3 := Lib.hid hm3
            have Hm23 := Lib.hid hm23
            obtain ⟨⟨v, ok⟩, hnt⟩ : ∃ r, numberT y = r := ⟨_, rfl⟩
            have hnum := fun W => cachepotref3_number.calls 100 y v ok W (by rw [Hnum.out y (by simp), hnt])
            have hrf := Hrf.out
            simp only [List.headD_cons, List.tail_cons, hnt] at hrf
            have hrs : R = (if ok = true ∧ u.length = 2 then ({ zeroOp 2 with s := v, key := u.headD ⟨#[]⟩, val := u.tail.headD ⟨#[]⟩ }, true) else (zeroOp 0, false)) := by
              rw [show R = (if (y :: u).length = 0 then (zeroOp 0, false) else (if ok = true ∧ u.length = 2 then ({ zeroOp 2 with s := v, key := u.headD ⟨#[]⟩, val := u.tail.headD ⟨#[]⟩ }, true) else (zeroOp 0, false))) from hrf, if_neg (by simp)]
            have Hrs := Lib.hid hrs
            have hm20 : 0 < m2 := by omega
            have hm21 : m2 ≤ c - 1 := Hct.out
            have t3 : ((m2 : Int) == 0) = false := beq_eq_false_iff_ne.2 (by omega)
            clear hTU hct1 hm3 hm23 hnt hrf hrs Hrf hCt2 h0 hnums
            go_wp2_with fail
            refine (hnum _).mono ?_
            rintro en w5 ⟨rfl, hd5⟩
            have hb5 := hd5.below
            have hlz := (Array.getElem?_eq_some_iff.1 hz4).1
            have hly := (Array.getElem?_eq_some_iff.1 hyi).1
            have hz5 := (hb5.block _ hlz).trans hz4
            have hy5 := (hb5.block _ hly).trans hyi
            have hbx := below_then hbi hbi.size hb5
            clear hnum hd5 c10
            clear p0 p1 p2 p3 p4 p5 p6 p7 p8 p9 pf0 pf1 pf2 pf3 pf4 pf5 pf6 pf7 pf8 pf9
            clear r0 r1 r2 r3 r4 r5 r6 r7 r8 r9 rf0 rf1 rf2 rf3 rf4 rf5 rf6 rf7 rf8 rf9
            obtain ⟨p0, p1, p2, p3, p4, p5, p6, p7, p8, p9⟩ := cells10 hz5
            obtain ⟨pf0, pf1, pf2, pf3, pf4, pf5, pf6, pf7, pf8, pf9⟩ := frozen10 hz5
            obtain ⟨r0, r1, r2, r3, r4, r5, r6, r7, r8, r9⟩ := cells10 hy5
            obtain ⟨rf0, rf1, rf2, rf3, rf4, rf5, rf6, rf7, rf8, rf9⟩ := frozen10 hy5
            go_upto_region 48 with (fail)
            clear p0 p1 p2 p3 p4 p5 p6 p7 p8 p9 pf0 pf1 pf2 pf3 pf4 pf5 pf6 pf7 pf8 pf9
            clear r0 r1 r2 r3 r4 r5 r6 r7 r8 r9 rf0 rf1 rf2 rf3 rf4 rf5 rf6 rf7 rf8 rf9
            have hz6 : (w5.setCell ⟨w.heap.size + 1, 1, none⟩ (.int .i64 v)).heap[w.heap.size + 1]? = some (.cells #[.int .i64 2, .int .i64 v, .string ⟨#[]⟩, .string ⟨#[]⟩, .slice none 0 0, .int .i64 0, .slice none 0 0, .int .i64 0, .int .i64 0, .int .i64 0] 61) := set_heap hz5 1 (.int .i64 v)
            have hy6 := blk_far (p := ⟨w.heap.size + 1, 1, none⟩) hy5 (by simp) (.int .i64 v)
            have hb6 := pw_below_grown hbx _ hbx.size (set_grown w5 (w.heap.size + 1) 1 (.int .i64 v)) (fun q e => by cases e; omega)
            generalize w5.setCell ⟨w.heap.size + 1, 1, none⟩ (.int .i64 v) = w6 at hz6 hy6 hb6 ⊢
            obtain ⟨p0, p1, p2, p3, p4, p5, p6, p7, p8, p9⟩ := cells10 hz6
            obtain ⟨pf0, pf1, pf2, pf3, pf4, pf5, pf6, pf7, pf8, pf9⟩ := frozen10 hz6
            obtain ⟨r0, r1, r2, r3, r4, r5, r6, r7, r8, r9⟩ := cells10 hy6
            obtain ⟨rf0, rf1, rf2, rf3, rf4, rf5, rf6, rf7, rf8, rf9⟩ := frozen10 hy6
            cases ok
            · have hRe : R = (zeroOp 0, false) := by rw [Hrs.out, if_neg (by simp)]
              have HRe := Lib.hid hRe
              clear hRe
              go_wp2
              clear p0 p1 p2 p3 p4 p5 p6 p7 p8 p9 pf0 pf1 pf2 pf3 pf4 pf5 pf6 pf7 pf8 pf9
              clear r0 r1 r2 r3 r4 r5 r6 r7 r8 r9 rf0 rf1 rf2 rf3 rf4 rf5 rf6 rf7 rf8 rf9
              have hz9 := put10 hy6 (.int .i64 0) (.int .i64 0) (.string ⟨#[]⟩) (.string ⟨#[]⟩) (.slice none 0 0) (.int .i64 0) (.slice none 0 0) (.int .i64 0) (.int .i64 0) (.int .i64 0)
              have hg9 := grown10 w6 w.heap.size (.int .i64 0) (.int .i64 0) (.string ⟨#[]⟩) (.string ⟨#[]⟩) (.slice none 0 0) (.int .i64 0) (.slice none 0 0) (.int .i64 0) (.int .i64 0) (.int .i64 0)
              generalize ((((((((((w6.setCell ⟨w.heap.size, 0, none⟩ (.int .i64 0)).setCell ⟨w.heap.size, 1, none⟩ (.int .i64 0)).setCell ⟨w.heap.size, 2, none⟩ (.string ⟨#[]⟩)).setCell ⟨w.heap.size, 3, none⟩ (.string ⟨#[]⟩)).setCell ⟨w.heap.size, 4, none⟩ (.slice none 0 0)).setCell ⟨w.heap.size, 5, none⟩ (.int .i64 0)).setCell ⟨w.heap.size, 6, none⟩ (.slice none 0 0)).setCell ⟨w.heap.size, 7, none⟩ (.int .i64 0)).setCell ⟨w.heap.size, 8, none⟩ (.int .i64 0)).setCell ⟨w.heap.size, 9, none⟩ (.int .i64 0)) = w9 at hz9 hg9 ⊢
              obtain ⟨s0, s1, s2, s3, s4, s5, s6, s7, s8, s9⟩ := cells10 hz9
              have hb9 := pw_below_grown hb6 _ hb6.size hg9 (fun k e => by cases e; exact Nat.le_refl _)
              refine bodyPost_ret (v := .tuple #[.agg #[.int .i64 0, .int .i64 0, .string ⟨#[]⟩, .string ⟨#[]⟩, .slice none 0 0, .int .i64 0, .slice none 0 0, .int .i64 0, .int .i64 0, .int .i64 0], .bool false]) (by simp [results, Tryd.results83, go_sem, s0, s1, s2, s3, s4, s5, s6, s7, s8, s9]) rfl ?_
              exact ⟨.slice none 0 0, .slice none 0 0, by rw [HRe.out]; rfl, by rw [HRe.out]; exact Kd.R_nil _ _ _ _ _, by rw [HRe.out]; exact Kd.R_nil _ _ _ _ _, hb9⟩
            · by_cases h3 : m3 = 2
              · obtain ⟨z, u2, rfl⟩ : ∃ z u2, u = z :: u2 := by
                  cases u with
                  | nil => have := Hm3.out; simp only [List.length_nil] at this; omega
                  | cons z u2 => exact ⟨z, u2, rfl⟩
                obtain ⟨adu, eu, c2⟩ := Kd.at_string (Kd.C_below hCu hb6) 0 (by decide) (by omega)
                subst eu
                have c20 : w6.cell? adu = some (.string z) := by
                  have h := c2
                  rw [show adu.add (0 : Int).toNat = adu by simp [Addr.add]] at h
                  exact h
                clear c2
                subst h3
                obtain ⟨z2, rfl⟩ : ∃ z2, u2 = [z2] := by
                  have := Hm3.out
                  match u2 with
                  | [a] => exact ⟨a, rfl⟩
                  | [] => simp at this
                  | _ :: _ :: _ => simp at this
                obtain ⟨adu', eu', c3⟩ := Kd.at_string (Kd.C_below hCu hb6) 1 (by decide) (by omega)
                cases eu'
                have c30 : w6.cell? { block := adu.block, off := adu.off + 1 } = some (.string z2) := c3
                clear c3
                have hRe : R = ({ zeroOp 2 with s := v, key := z, val := z2 }, true) := by rw [Hrs.out, if_pos ⟨rfl, rfl⟩]; rfl
                have HRe := Lib.hid hRe
                clear hRe
                go_upto_region 53 with (fail)
                have hcw0 : w.cell? adu = some (.string z) := by
                  obtain ⟨a9, e9, c9⟩ := Kd.at_string hCu 0 (by decide) (by omega)
                  cases e9
                  rw [show adu.add (0 : Int).toNat = adu by simp [Addr.add]] at c9
                  exact c9
                have hcw1 : w.cell? { block := adu.block, off := adu.off + 1 } = some (.string z2) := by
                  obtain ⟨a9, e9, c9⟩ := Kd.at_string hCu 1 (by decide) (by omega)
                  cases e9
                  exact c9
                have c21 := ((pw_below_grown hb6 _ hb6.size (set_grown w6 (w.heap.size + 1) 3 (.string z2)) (fun q e => by cases e; omega)).cell (World.block_lt_of_cell? w _ hcw0)).trans hcw0
                have c31 := ((pw_below_grown hb6 _ hb6.size (set_grown w6 (w.heap.size + 1) 2 (.string z)) (fun q e => by cases e; omega)).cell (World.block_lt_of_cell? w _ hcw1)).trans hcw1
                go_region
                have hzd0 : (w6.setCell ⟨w.heap.size + 1, 2, none⟩ (.string z)).heap[w.heap.size + 1]? = some (.cells #[.int .i64 2, .int .i64 v, .string z, .string ⟨#[]⟩, .slice none 0 0, .int .i64 0, .slice none 0 0, .int .i64 0, .int .i64 0, .int .i64 0] 61) := set_heap hz6 2 (.string z)
                have hyd0 := blk_far (p := ⟨w.heap.size + 1, 2, none⟩) hy6 (by simp) (.string z)
                have hbd0 := pw_below_grown hb6 _ hb6.size (set_grown w6 (w.heap.size + 1) 2 (.string z)) (fun q e => by cases e; omega)
                have hzd1 : ((w6.setCell ⟨w.heap.size + 1, 2, none⟩ (.string z)).setCell ⟨w.heap.size + 1, 3, none⟩ (.string z2)).heap[w.heap.size + 1]? = some (.cells #[.int .i64 2, .int .i64 v, .string z, .string z2, .slice none 0 0, .int .i64 0, .slice none 0 0, .int .i64 0, .int .i64 0, .int .i64 0] 61) := set_heap hzd0 3 (.string z2)
                have hyd1 := blk_far (p := ⟨w.heap.size + 1, 3, none⟩) hyd0 (by simp) (.string z2)
                have hbd1 := pw_below_grown hbd0 _ hbd0.size (set_grown (w6.setCell ⟨w.heap.size + 1, 2, none⟩ (.string z)) (w.heap.size + 1) 3 (.string z2)) (fun q e => by cases e; omega)
                have hz8 : ((w6.setCell ⟨w.heap.size + 1, 2, none⟩ (.string z)).setCell ⟨w.heap.size + 1, 3, none⟩ (.string z2)).drew.heap[w.heap.size + 1]? = _ := hzd1
                have hy8 : ((w6.setCell ⟨w.heap.size + 1, 2, none⟩ (.string z)).setCell ⟨w.heap.size + 1, 3, none⟩ (.string z2)).drew.heap[w.heap.size]? = _ := hyd1
                have hb8 := below_drew hbd1
                generalize ((w6.setCell ⟨w.heap.size + 1, 2, none⟩ (.string z)).setCell ⟨w.heap.size + 1, 3, none⟩ (.string z2)).drew = w8 at hz8 hy8 hb8 ⊢
                go_upto_region 60 with (fail)
                clear p0 p1 p2 p3 p4 p5 p6 p7 p8 p9 pf0 pf1 pf2 pf3 pf4 pf5 pf6 pf7 pf8 pf9
                clear r0 r1 r2 r3 r4 r5 r6 r7 r8 r9 rf0 rf1 rf2 rf3 rf4 rf5 rf6 rf7 rf8 rf9
                obtain ⟨p0, p1, p2, p3, p4, p5, p6, p7, p8, p9⟩ := cells10 hz8
                obtain ⟨pf0, pf1, pf2, pf3, pf4, pf5, pf6, pf7, pf8, pf9⟩ := frozen10 hz8
                obtain ⟨r0, r1, r2, r3, r4, r5, r6, r7, r8, r9⟩ := cells10 hy8
                obtain ⟨rf0, rf1, rf2, rf3, rf4, rf5, rf6, rf7, rf8, rf9⟩ := frozen10 hy8
                go_wp2
                clear p0 p1 p2 p3 p4 p5 p6 p7 p8 p9 pf0 pf1 pf2 pf3 pf4 pf5 pf6 pf7 pf8 pf9
                clear r0 r1 r2 r3 r4 r5 r6 r7 r8 r9 rf0 rf1 rf2 rf3 rf4 rf5 rf6 rf7 rf8 rf9
                have hz9 := put10 hy8 (.int .i64 2) (.int .i64 v) (.string z) (.string z2) (.slice none 0 0) (.int .i64 0) (.slice none 0 0) (.int .i64 0) (.int .i64 0) (.int .i64 0)
                have hg9 := grown10 w8 w.heap.size (.int .i64 2) (.int .i64 v) (.string z) (.string z2) (.slice none 0 0) (.int .i64 0) (.slice none 0 0) (.int .i64 0) (.int .i64 0) (.int .i64 0)
                generalize ((((((((((w8.setCell ⟨w.heap.size, 0, none⟩ (.int .i64 2)).setCell ⟨w.heap.size, 1, none⟩ (.int .i64 v)).setCell ⟨w.heap.size, 2, none⟩ (.string z)).setCell ⟨w.heap.size, 3, none⟩ (.string z2)).setCell ⟨w.heap.size, 4, none⟩ (.slice none 0 0)).setCell ⟨w.heap.size, 5, none⟩ (.int .i64 0)).setCell ⟨w.heap.size, 6, none⟩ (.slice none 0 0)).setCell ⟨w.heap.size, 7, none⟩ (.int .i64 0)).setCell ⟨w.heap.size, 8, none⟩ (.int .i64 0)).setCell ⟨w.heap.size, 9, none⟩ (.int .i64 0)) = w9 at hz9 hg9 ⊢
                obtain ⟨s0, s1, s2, s3, s4, s5, s6, s7, s8, s9⟩ := cells10 hz9
                have hb9 := pw_below_grown hb8 _ hb8.size hg9 (fun k e => by cases e; exact Nat.le_refl _)
                refine bodyPost_ret (v := .tuple #[.agg #[.int .i64 2, .int .i64 v, .string z, .string z2, .slice none 0 0, .int .i64 0, .slice none 0 0, .int .i64 0, .int .i64 0, .int .i64 0], .bool true]) (by simp [results, Tryd.results83, go_sem, s0, s1, s2, s3, s4, s5, s6, s7, s8, s9]) rfl ?_
                exact ⟨.slice none 0 0, .slice none 0 0, by rw [HRe.out]; rfl, by rw [HRe.out]; exact Kd.R_nil _ _ _ _ _, by rw [HRe.out]; exact Kd.R_nil _ _ _ _ _, hb9⟩
              · have t4 : ((m3 : Int) != 2) = true := bne_iff_ne.2 (by omega)
                have hRe : R = (zeroOp 0, false) := by rw [Hrs.out, if_neg (fun h => h3 (by rw [← Hm3.out]; exact h.2))]
                have HRe := Lib.hid hRe
                clear hRe
                clear h3
                go_wp2
                clear p0 p1 p2 p3 p4 p5 p6 p7 p8 p9 pf0 pf1 pf2 pf3 pf4 pf5 pf6 pf7 pf8 pf9
                clear r0 r1 r2 r3 r4 r5 r6 r7 r8 r9 rf0 rf1 rf2 rf3 rf4 rf5 rf6 rf7 rf8 rf9
                have hz9 := put10 hy6 (.int .i64 0) (.int .i64 0) (.string ⟨#[]⟩) (.string ⟨#[]⟩) (.slice none 0 0) (.int .i64 0) (.slice none 0 0) (.int .i64 0) (.int .i64 0) (.int .i64 0)
                have hg9 := grown10 w6 w.heap.size (.int .i64 0) (.int .i64 0) (.string ⟨#[]⟩) (.string ⟨#[]⟩) (.slice none 0 0) (.int .i64 0) (.slice none 0 0) (.int .i64 0) (.int .i64 0) (.int .i64 0)
                generalize ((((((((((w6.setCell ⟨w.heap.size, 0, none⟩ (.int .i64 0)).setCell ⟨w.heap.size, 1, none⟩ (.int .i64 0)).setCell ⟨w.heap.size, 2, none⟩ (.string ⟨#[]⟩)).setCell ⟨w.heap.size, 3, none⟩ (.string ⟨#[]⟩)).setCell ⟨w.heap.size, 4, none⟩ (.slice none 0 0)).setCell ⟨w.heap.size, 5, none⟩ (.int .i64 0)).setCell ⟨w.heap.size, 6, none⟩ (.slice none 0 0)).setCell ⟨w.heap.size, 7, none⟩ (.int .i64 0)).setCell ⟨w.heap.size, 8, none⟩ (.int .i64 0)).setCell ⟨w.heap.size, 9, none⟩ (.int .i64 0)) = w9 at hz9 hg9 ⊢
                obtain ⟨s0, s1, s2, s3, s4, s5, s6, s7, s8, s9⟩ := cells10 hz9
                have hb9 := pw_below_grown hb6 _ hb6.size hg9 (fun k e => by cases e; exact Nat.le_refl _)
                refine bodyPost_ret (v := .tuple #[.agg #[.int .i64 0, .int .i64 0, .string ⟨#[]⟩, .string ⟨#[]⟩, .slice none 0 0, .int .i64 0, .slice none 0 0, .int .i64 0, .int .i64 0, .int .i64 0], .bool false]) (by simp [results, Tryd.results83, go_sem, s0, s1, s2, s3, s4, s5, s6, s7, s8, s9]) rfl ?_
                exact ⟨.slice none 0 0, .slice none 0 0, by rw [HRe.out]; rfl, by rw [HRe.out]; exact Kd.R_nil _ _ _ _ _, by rw [HRe.out]; exact Kd.R_nil _ _ _ _ _, hb9⟩
        · have hz4 : wr.heap[w.heap.size + 1]? = some (.cells #[.int .i64 3, .int .i64 0, .string ⟨#[]⟩, .string ⟨#[]⟩, .slice none 0 0, .int .i64 0, .slice none 0 0, .int .i64 0, .int .i64 0, .int .i64 0] 61) := hzk
          obtain ⟨p0, p1, p2, p3, p4, p5, p6, p7, p8, p9⟩ := cells10 hz4
          obtain ⟨pf0, pf1, pf2, pf3, pf4, pf5, pf6, pf7, pf8, pf9⟩ := frozen10 hz4
          obtain ⟨r0, r1, r2, r3, r4, r5, r6, r7, r8, r9⟩ := cells10 hyi
          obtain ⟨rf0, rf1, rf2, rf3, rf4, rf5, rf6, rf7, rf8, rf9⟩ := frozen10 hyi
          by_cases h0 : m2 = 0
          · have hRe : R = (zeroOp 0, false) := by
              obtain rfl : t = [] := List.length_eq_zero_iff.1 (by rw [Hm2.out]; exact h0)
              exact Hrf.out
            have HRe := Lib.hid hRe
            clear hRe
            subst h0
            go_wp2
            clear p0 p1 p2 p3 p4 p5 p6 p7 p8 p9 pf0 pf1 pf2 pf3 pf4 pf5 pf6 pf7 pf8 pf9
            clear r0 r1 r2 r3 r4 r5 r6 r7 r8 r9 rf0 rf1 rf2 rf3 rf4 rf5 rf6 rf7 rf8 rf9
            have hz9 := put10 hyi (.int .i64 0) (.int .i64 0) (.string ⟨#[]⟩) (.string ⟨#[]⟩) (.slice none 0 0) (.int .i64 0) (.slice none 0 0) (.int .i64 0) (.int .i64 0) (.int .i64 0)
            have hg9 := grown10 wr w.heap.size (.int .i64 0) (.int .i64 0) (.string ⟨#[]⟩) (.string ⟨#[]⟩) (.slice none 0 0) (.int .i64 0) (.slice none 0 0) (.int .i64 0) (.int .i64 0) (.int .i64 0)
            generalize ((((((((((wr.setCell ⟨w.heap.size, 0, none⟩ (.int .i64 0)).setCell ⟨w.heap.size, 1, none⟩ (.int .i64 0)).setCell ⟨w.heap.size, 2, none⟩ (.string ⟨#[]⟩)).setCell ⟨w.heap.size, 3, none⟩ (.string ⟨#[]⟩)).setCell ⟨w.heap.size, 4, none⟩ (.slice none 0 0)).setCell ⟨w.heap.size, 5, none⟩ (.int .i64 0)).setCell ⟨w.heap.size, 6, none⟩ (.slice none 0 0)).setCell ⟨w.heap.size, 7, none⟩ (.int .i64 0)).setCell ⟨w.heap.size, 8, none⟩ (.int .i64 0)).setCell ⟨w.heap.size, 9, none⟩ (.int .i64 0)) = w9 at hz9 hg9 ⊢
            obtain ⟨s0, s1, s2, s3, s4, s5, s6, s7, s8, s9⟩ := cells10 hz9
            have hb9 := pw_below_grown hbi _ hbi.size hg9 (fun k e => by cases e; exact Nat.le_refl _)
            refine bodyPost_ret (v := .tuple #[.agg #[.int .i64 0, .int .i64 0, .string ⟨#[]⟩, .string ⟨#[]⟩, .slice none 0 0, .int .i64 0, .slice none 0 0, .int .i64 0, .int .i64 0, .int .i64 0], .bool false]) (by simp [results, Tryd.results83, go_sem, s0, s1, s2, s3, s4, s5, s6, s7, s8, s9]) rfl ?_
            exact ⟨.slice none 0 0, .slice none 0 0, by rw [HRe.out]; rfl, by rw [HRe.out]; exact Kd.R_nil _ _ _ _ _, by rw [HRe.out]; exact Kd.R_nil _ _ _ _ _, hb9⟩
          · obtain ⟨y, u, rfl⟩ : ∃ y u, t = y :: u := by
              cases t with
              | nil => exact absurd Hm2.out (by simp only [List.length_nil]; exact fun h => h0 h.symm)
              | cons y u => exact ⟨y, u, rfl⟩
            obtain ⟨adt, et, c1⟩ := Kd.at_string (Kd.C_below hCt hbi) 0 (by decide) (by omega)
            subst et
            have c10 : wr.cell? adt = some (.string y) := by
              have h := c1
              rw [show adt.add (0 : Int).toNat = adt by simp [Addr.add]] at h
              exact h
            clear c1
            have hCt2 : Kd.C Kd.string w (some adt) (y :: u).length (y :: u) := by rw [Hm2.out]; exact hCt
            have hct1 : (y :: u).length ≤ c - 1 := by rw [Hm2.out]; exact Hct.out
            have hCu := Kd.C_drop (c := c - 1) (m := 1) hCt2 (by rw [List.length_cons]; omega) hct1
            rw [show (Kd.string).sz = 1 from rfl, Nat.one_mul] at hCu
            obtain ⟨TU, hTU⟩ : ∃ TU, (if c - 1 = 1 then some adt else (some adt).map (·.add 1)) = TU := ⟨_, rfl⟩
            rw [hTU] at hCu
            change Kd.C Kd.string w TU u.length u at hCu
            obtain ⟨m3, hm3⟩ : ∃ m3, u.length = m3 := ⟨_, rfl⟩
            rw [hm3] at hCu
            have hm23 : m2 = m3 + 1 := by rw [← Hm2.out, List.length_cons, hm3]
            have hsu : ∀ W, (Instr.slice 22 (.slice (some adt) m2 (c - 1)) (some (.int .i64 1)) none none).run Tryd.prog W = .ok (.slice TU m3 (c - 1 - 1)) W := fun W => by
              have h := slice_tail22 (some adt) m2 (c - 1) 1 (by omega) W
              rw [hTU, show m2 - 1 = m3 by omega] at h
              exact h
            have Hm3 := Lib.hid hm3
            have Hm23 := Lib.hid hm23
            obtain ⟨⟨v, ok⟩, hnt⟩ : ∃ r, numberT y = r := ⟨_, rfl⟩
            have hnum := fun W => cachepotref3_number.calls 100 y v ok W (by rw [Hnum.out y (by simp), hnt])
            have hrf := Hrf.out
            simp only [List.headD_cons, List.tail_cons, hnt] at hrf
            have hrs : R = (if ok = true ∧ u.length = 1 then ({ zeroOp 3 with s := v, key := u.headD ⟨#[]⟩ }, true) else (zeroOp 0, false)) := by
              rw [show R = (if (y :: u).length = 0 then (zeroOp 0, false) else (if ok = true ∧ u.length = 1 then ({ zeroOp 3 with s := v, key := u.headD ⟨#[]⟩ }, true) else (zeroOp 0, false))) from hrf, if_neg (by simp)]
            have Hrs := Lib.hid hrs
            have hm20 : 0 < m2 := by omega
            have hm21 : m2 ≤ c - 1 := Hct.out
            have t3 : ((m2 : Int) == 0) = false := beq_eq_false_iff_ne.2 (by omega)
            clear hTU hct1 hm3 hm23 hnt hrf hrs Hrf hCt2 h0 hnums
            go_wp2_with fail
            refine (hnum _).mono ?_
            rintro en w5 ⟨rfl, hd5⟩
            have hb5 := hd5.below
            have hlz := (Array.getElem?_eq_some_iff.1 hz4).1
            have hly := (Array.getElem?_eq_some_iff.1 hyi).1
            have hz5 := (hb5.block _ hlz).trans hz4
            have hy5 := (hb5.block _ hly).trans hyi
            have hbx := below_then hbi hbi.size hb5
            clear hnum hd5 c10
            clear p0 p1 p2 p3 p4 p5 p6 p7 p8 p9 pf0 pf1 pf2 pf3 pf4 pf5 pf6 pf7 pf8 pf9
            clear r0 r1 r2 r3 r4 r5 r6 r7 r8 r9 rf0 rf1 rf2 rf3 rf4 rf5 rf6 rf7 rf8 rf9
            obtain ⟨p0, p1, p2, p3, p4, p5, p6, p7, p8, p9⟩ := cells10 hz5
            obtain ⟨pf0, pf1, pf2, pf3, pf4, pf5, pf6, pf7, pf8, pf9⟩ := frozen10 hz5
            obtain ⟨r0, r1, r2, r3, r4, r5, r6, r7, r8, r9⟩ := cells10 hy5
            obtain ⟨rf0, rf1, rf2, rf3, rf4, rf5, rf6, rf7, rf8, rf9⟩ := frozen10 hy5
            go_upto_region 48 with (fail)
            clear p0 p1 p2 p3 p4 p5 p6 p7 p8 p9 pf0 pf1 pf2 pf3 pf4 pf5 pf6 pf7 pf8 pf9
            clear r0 r1 r2 r3 r4 r5 r6 r7 r8 r9 rf0 rf1 rf2 rf3 rf4 rf5 rf6 rf7 rf8 rf9
            have hz6 : (w5.setCell ⟨w.heap.size + 1, 1, none⟩ (.int .i64 v)).heap[w.heap.size + 1]? = some (.cells #[.int .i64 3, .int .i64 v, .string ⟨#[]⟩, .string ⟨#[]⟩, .slice none 0 0, .int .i64 0, .slice none 0 0, .int .i64 0, .int .i64 0, .int .i64 0] 61) := set_heap hz5 1 (.int .i64 v)
            have hy6 := blk_far (p := ⟨w.heap.size + 1, 1, none⟩) hy5 (by simp) (.int .i64 v)
            have hb6 := pw_below_grown hbx _ hbx.size (set_grown w5 (w.heap.size + 1) 1 (.int .i64 v)) (fun q e => by cases e; omega)
            generalize w5.setCell ⟨w.heap.size + 1, 1, none⟩ (.int .i64 v) = w6 at hz6 hy6 hb6 ⊢
            obtain ⟨p0, p1, p2, p3, p4, p5, p6, p7, p8, p9⟩ := cells10 hz6
            obtain ⟨pf0, pf1, pf2, pf3, pf4, pf5, pf6, pf7, pf8, pf9⟩ := frozen10 hz6
            obtain ⟨r0, r1, r2, r3, r4, r5, r6, r7, r8, r9⟩ := cells10 hy6
            obtain ⟨rf0, rf1, rf2, rf3, rf4, rf5, rf6, rf7, rf8, rf9⟩ := frozen10 hy6
            cases ok
            · have hRe : R = (zeroOp 0, false) := by rw [Hrs.out, if_neg (by simp)]
              have HRe := Lib.hid hRe
              clear hRe
              go_wp2
              clear p0 p1 p2 p3 p4 p5 p6 p7 p8 p9 pf0 pf1 pf2 pf3 pf4 pf5 pf6 pf7 pf8 pf9
              clear r0 r1 r2 r3 r4 r5 r6 r7 r8 r9 rf0 rf1 rf2 rf3 rf4 rf5 rf6 rf7 rf8 rf9
              have hz9 := put10 hy6 (.int .i64 0) (.int .i64 0) (.string ⟨#[]⟩) (.string ⟨#[]⟩) (.slice none 0 0) (.int .i64 0) (.slice none 0 0) (.int .i64 0) (.int .i64 0) (.int .i64 0)
              have hg9 := grown10 w6 w.heap.size (.int .i64 0) (.int .i64 0) (.string ⟨#[]⟩) (.string ⟨#[]⟩) (.slice none 0 0) (.int .i64 0) (.slice none 0 0) (.int .i64 0) (.int .i64 0) (.int .i64 0)
              generalize ((((((((((w6.setCell ⟨w.heap.size, 0, none⟩ (.int .i64 0)).setCell ⟨w.heap.size, 1, none⟩ (.int .i64 0)).setCell ⟨w.heap.size, 2, none⟩ (.string ⟨#[]⟩)).setCell ⟨w.heap.size, 3, none⟩ (.string ⟨#[]⟩)).setCell ⟨w.heap.size, 4, none⟩ (.slice none 0 0)).setCell ⟨w.heap.size, 5, none⟩ (.int .i64 0)).setCell ⟨w.heap.size, 6, none⟩ (.slice none 0 0)).setCell ⟨w.heap.size, 7, none⟩ (.int .i64 0)).setCell ⟨w.heap.size, 8, none⟩ (.int .i64 0)).setCell ⟨w.heap.size, 9, none⟩ (.int .i64 0)) = w9 at hz9 hg9 ⊢
              obtain ⟨s0, s1, s2, s3, s4, s5, s6, s7, s8, s9⟩ := cells10 hz9
              have hb9 := pw_below_grown hb6 _ hb6.size hg9 (fun k e => by cases e; exact Nat.le_refl _)
              refine bodyPost_ret (v := .tuple #[.agg #[.int .i64 0, .int .i64 0, .string ⟨#[]⟩, .string ⟨#[]⟩, .slice none 0 0, .int .i64 0, .slice none 0 0, .int .i64 0, .int .i64 0, .int .i64 0], .bool false]) (by simp [results, Tryd.results83, go_sem, s0, s1, s2, s3, s4, s5, s6, s7, s8, s9]) rfl ?_
              exact ⟨.slice none 0 0, .slice none 0 0, by rw [HRe.out]; rfl, by rw [HRe.out]; exact Kd.R_nil _ _ _ _ _, by rw [HRe.out]; exact Kd.R_nil _ _ _ _ _, hb9⟩
            · by_cases h3 : m3 = 1
              · obtain ⟨z, u2, rfl⟩ : ∃ z u2, u = z :: u2 := by
                  cases u with
                  | nil => have := Hm3.out; simp only [List.length_nil] at this; omega
                  | cons z u2 => exact ⟨z, u2, rfl⟩
                obtain ⟨adu, eu, c2⟩ := Kd.at_string (Kd.C_below hCu hb6) 0 (by decide) (by omega)
                subst eu
                have c20 : w6.cell? adu = some (.string z) := by
                  have h := c2
                  rw [show adu.add (0 : Int).toNat = adu by simp [Addr.add]] at h
                  exact h
                clear c2
                have hRe : R = ({ zeroOp 3 with s := v, key := z }, true) := by rw [Hrs.out, if_pos ⟨rfl, by rw [Hm3.out]; exact h3⟩]; rfl
                have HRe := Lib.hid hRe
                clear hRe
                subst h3
                go_upto_region 60 with (fail)
                clear p0 p1 p2 p3 p4 p5 p6 p7 p8 p9 pf0 pf1 pf2 pf3 pf4 pf5 pf6 pf7 pf8 pf9
                clear r0 r1 r2 r3 r4 r5 r6 r7 r8 r9 rf0 rf1 rf2 rf3 rf4 rf5 rf6 rf7 rf8 rf9
                have hz7 : (w6.setCell ⟨w.heap.size + 1, 2, none⟩ (.string z)).heap[w.heap.size + 1]? = some (.cells #[.int .i64 3, .int .i64 v, .string z, .string ⟨#[]⟩, .slice none 0 0, .int .i64 0, .slice none 0 0, .int .i64 0, .int .i64 0, .int .i64 0] 61) := set_heap hz6 2 (.string z)
                have hy7 := blk_far (p := ⟨w.heap.size + 1, 2, none⟩) hy6 (by simp) (.string z)
                have hb7 := pw_below_grown hb6 _ hb6.size (set_grown w6 (w.heap.size + 1) 2 (.string z)) (fun q e => by cases e; omega)
                generalize w6.setCell ⟨w.heap.size + 1, 2, none⟩ (.string z) = w7 at hz7 hy7 hb7 ⊢
                obtain ⟨p0, p1, p2, p3, p4, p5, p6, p7, p8, p9⟩ := cells10 hz7
                obtain ⟨pf0, pf1, pf2, pf3, pf4, pf5, pf6, pf7, pf8, pf9⟩ := frozen10 hz7
                obtain ⟨r0, r1, r2, r3, r4, r5, r6, r7, r8, r9⟩ := cells10 hy7
                obtain ⟨rf0, rf1, rf2, rf3, rf4, rf5, rf6, rf7, rf8, rf9⟩ := frozen10 hy7
                go_wp2
                clear p0 p1 p2 p3 p4 p5 p6 p7 p8 p9 pf0 pf1 pf2 pf3 pf4 pf5 pf6 pf7 pf8 pf9
                clear r0 r1 r2 r3 r4 r5 r6 r7 r8 r9 rf0 rf1 rf2 rf3 rf4 rf5 rf6 rf7 rf8 rf9
                have hz9 := put10 hy7 (.int .i64 3) (.int .i64 v) (.string z) (.string ⟨#[]⟩) (.slice none 0 0) (.int .i64 0) (.slice none 0 0) (.int .i64 0) (.int .i64 0) (.int .i64 0)
                have hg9 := grown10 w7 w.heap.size (.int .i64 3) (.int .i64 v) (.string z) (.string ⟨#[]⟩) (.slice none 0 0) (.int .i64 0) (.slice none 0 0) (.int .i64 0) (.int .i64 0) (.int .i64 0)
                generalize ((((((((((w7.setCell ⟨w.heap.size, 0, none⟩ (.int .i64 3)).setCell ⟨w.heap.size, 1, none⟩ (.int .i64 v)).setCell ⟨w.heap.size, 2, none⟩ (.string z)).setCell ⟨w.heap.size, 3, none⟩ (.string ⟨#[]⟩)).setCell ⟨w.heap.size, 4, none⟩ (.slice none 0 0)).setCell ⟨w.heap.size, 5, none⟩ (.int .i64 0)).setCell ⟨w.heap.size, 6, none⟩ (.slice none 0 0)).setCell ⟨w.heap.size, 7, none⟩ (.int .i64 0)).setCell ⟨w.heap.size, 8, none⟩ (.int .i64 0)).setCell ⟨w.heap.size, 9, none⟩ (.int .i64 0)) = w9 at hz9 hg9 ⊢
                obtain ⟨s0, s1, s2, s3, s4, s5, s6, s7, s8, s9⟩ := cells10 hz9
                have hb9 := pw_below_grown hb7 _ hb7.size hg9 (fun k e => by cases e; exact Nat.le_refl _)
                refine bodyPost_ret (v := .tuple #[.agg #[.int .i64 3, .int .i64 v, .string z, .string ⟨#[]⟩, .slice none 0 0, .int .i64 0, .slice none 0 0, .int .i64 0, .int .i64 0, .int .i64 0], .bool true]) (by simp [results, Tryd.results83, go_sem, s0, s1, s2, s3, s4, s5, s6, s7, s8, s9]) rfl ?_
                exact ⟨.slice none 0 0, .slice none 0 0, by rw [HRe.out]; rfl, by rw [HRe.out]; exact Kd.R_nil _ _ _ _ _, by rw [HRe.out]; exact Kd.R_nil _ _ _ _ _, hb9⟩
              · have t4 : ((m3 : Int) != 1) = true := bne_iff_ne.2 (by omega)
                have hRe : R = (zeroOp 0, false) := by rw [Hrs.out, if_neg (fun h => h3 (by rw [← Hm3.out]; exact h.2))]
                have HRe := Lib.hid hRe
                clear hRe
                clear h3
                go_wp2
                clear p0 p1 p2 p3 p4 p5 p6 p7 p8 p9 pf0 pf1 pf2 pf3 pf4 pf5 pf6 pf7 pf8 pf9
                clear r0 r1 r2 r3 r4 r5 r6 r7 r8 r9 rf0 rf1 rf2 rf3 rf4 rf5 rf6 rf7 rf8 rf9
                have hz9 := put10 hy6 (.int .i64 0) (.int .i64 0) (.string ⟨#[]⟩) (.string ⟨#[]⟩) (.slice none 0 0) (.int .i64 0) (.slice none 0 0) (.int .i64 0) (.int .i64 0) (.int .i64 0)
                have hg9 := grown10 w6 w.heap.size (.int .i64 0) (.int .i64 0) (.string ⟨#[]⟩) (.string ⟨#[]⟩) (.slice none 0 0) (.int .i64 0) (.slice none 0 0) (.int .i64 0) (.int .i64 0) (.int .i64 0)
                generalize ((((((((((w6.setCell ⟨w.heap.size, 0, none⟩ (.int .i64 0)).setCell ⟨w.heap.size, 1, none⟩ (.int .i64 0)).setCell ⟨w.heap.size, 2, none⟩ (.string ⟨#[]⟩)).setCell ⟨w.heap.size, 3, none⟩ (.string ⟨#[]⟩)).setCell ⟨w.heap.size, 4, none⟩ (.slice none 0 0)).setCell ⟨w.heap.size, 5, none⟩ (.int .i64 0)).setCell ⟨w.heap.size, 6, none⟩ (.slice none 0 0)).setCell ⟨w.heap.size, 7, none⟩ (.int .i64 0)).setCell ⟨w.heap.size, 8, none⟩ (.int .i64 0)).setCell ⟨w.heap.size, 9, none⟩ (.int .i64 0)) = w9 at hz9 hg9 ⊢
                obtain ⟨s0, s1, s2, s3, s4, s5, s6, s7, s8, s9⟩ := cells10 hz9
                have hb9 := pw_below_grown hb6 _ hb6.size hg9 (fun k e => by cases e; exact Nat.le_refl _)
                refine bodyPost_ret (v := .tuple #[.agg #[.int .i64 0, .int .i64 0, .string ⟨#[]⟩, .string ⟨#[]⟩, .slice none 0 0, .int .i64 0, .slice none 0 0, .int .i64 0, .int .i64 0, .int .i64 0], .bool false]) (by simp [results, Tryd.results83, go_sem, s0, s1, s2, s3, s4, s5, s6, s7, s8, s9]) rfl ?_
                exact ⟨.slice none 0 0, .slice none 0 0, by rw [HRe.out]; rfl, by rw [HRe.out]; exact Kd.R_nil _ _ _ _ _, by rw [HRe.out]; exact Kd.R_nil _ _ _ _ _, hb9⟩
        · have hz4 : wr.heap[w.heap.size + 1]? = some (.cells #[.int .i64 4, .int .i64 0, .string ⟨#[]⟩, .string ⟨#[]⟩, .slice none 0 0, .int .i64 0, .slice none 0 0, .int .i64 0, .int .i64 0, .int .i64 0] 61) := hzk
          obtain ⟨p0, p1, p2, p3, p4, p5, p6, p7, p8, p9⟩ := cells10 hz4
          obtain ⟨pf0, pf1, pf2, pf3, pf4, pf5, pf6, pf7, pf8, pf9⟩ := frozen10 hz4
          obtain ⟨r0, r1, r2, r3, r4, r5, r6, r7, r8, r9⟩ := cells10 hyi
          obtain ⟨rf0, rf1, rf2, rf3, rf4, rf5, rf6, rf7, rf8, rf9⟩ := frozen10 hyi
          by_cases h0 : m2 = 0
          · have hRe : R = (zeroOp 0, false) := by
              obtain rfl : t = [] := List.length_eq_zero_iff.1 (by rw [Hm2.out]; exact h0)
              exact Hrf.out
            have HRe := Lib.hid hRe
            clear hRe
            subst h0
            go_wp2
            clear p0 p1 p2 p3 p4 p5 p6 p7 p8 p9 pf0 pf1 pf2 pf3 pf4 pf5 pf6 pf7 pf8 pf9
            clear r0 r1 r2 r3 r4 r5 r6 r7 r8 r9 rf0 rf1 rf2 rf3 rf4 rf5 rf6 rf7 rf8 rf9
            have hz9 := put10 hyi (.int .i64 0) (.int .i64 0) (.string ⟨#[]⟩) (.string ⟨#[]⟩) (.slice none 0 0) (.int .i64 0) (.slice none 0 0) (.int .i64 0) (.int .i64 0) (.int .i64 0)
            have hg9 := grown10 wr w.heap.size (.int .i64 0) (.int .i64 0) (.string ⟨#[]⟩) (.string ⟨#[]⟩) (.slice none 0 0) (.int .i64 0) (.slice none 0 0) (.int .i64 0) (.int .i64 0) (.int .i64 0)
            generalize ((((((((((wr.setCell ⟨w.heap.size, 0, none⟩ (.int .i64 0)).setCell ⟨w.heap.size, 1, none⟩ (.int .i64 0)).setCell ⟨w.heap.size, 2, none⟩ (.string ⟨#[]⟩)).setCell ⟨w.heap.size, 3, none⟩ (.string ⟨#[]⟩)).setCell ⟨w.heap.size, 4, none⟩ (.slice none 0 0)).setCell ⟨w.heap.size, 5, none⟩ (.int .i64 0)).setCell ⟨w.heap.size, 6, none⟩ (.slice none 0 0)).setCell ⟨w.heap.size, 7, none⟩ (.int .i64 0)).setCell ⟨w.heap.size, 8, none⟩ (.int .i64 0)).setCell ⟨w.heap.size, 9, none⟩ (.int .i64 0)) = w9 at hz9 hg9 ⊢
            obtain ⟨s0, s1, s2, s3, s4, s5, s6, s7, s8, s9⟩ := cells10 hz9
            have hb9 := pw_below_grown hbi _ hbi.size hg9 (fun k e => by cases e; exact Nat.le_refl _)
            refine bodyPost_ret (v := .tuple #[.agg #[.int .i64 0, .int .i64 0, .string ⟨#[]⟩, .string ⟨#[]⟩, .slice none 0 0, .int .i64 0, .slice none 0 0, .int .i64 0, .int .i64 0, .int .i64 0], .bool false]) (by simp [results, Tryd.results83, go_sem, s0, s1, s2, s3, s4, s5, s6, s7, s8, s9]) rfl ?_
            exact ⟨.slice none 0 0, .slice none 0 0, by rw [HRe.out]; rfl, by rw [HRe.out]; exact Kd.R_nil _ _ _ _ _, by rw [HRe.out]; exact Kd.R_nil _ _ _ _ _, hb9⟩
          · obtain ⟨y, u, rfl⟩ : ∃ y u, t = y :: u := by
              cases t with
              | nil => exact absurd Hm2.out (by simp only [List.length_nil]; exact fun h => h0 h.symm)
              | cons y u => exact ⟨y, u, rfl⟩
            obtain ⟨adt, et, c1⟩ := Kd.at_string (Kd.C_below hCt hbi) 0 (by decide) (by omega)
            subst et
            have c10 : wr.cell? adt = some (.string y) := by
              have h := c1
              rw [show adt.add (0 : Int).toNat = adt by simp [Addr.add]] at h
              exact h
            clear c1
            have hCt2 : Kd.C Kd.string w (some adt) (y :: u).length (y :: u) := by rw [Hm2.out]; exact hCt
            have hct1 : (y :: u).length ≤ c - 1 := by rw [Hm2.out]; exact Hct.out
            have hCu := Kd.C_drop (c := c - 1) (m := 1) hCt2 (by rw [List.length_cons]; omega) hct1
            rw [show (Kd.string).sz = 1 from rfl, Nat.one_mul] at hCu
            obtain ⟨TU, hTU⟩ : ∃ TU, (if c - 1 = 1 then some adt else (some adt).map (·.add 1)) = TU := ⟨_, rfl⟩
            rw [hTU] at hCu
            change Kd.C Kd.string w TU u.length u at hCu
            obtain ⟨m3, hm3⟩ : ∃ m3, u.length = m3 := ⟨_, rfl⟩
            rw [hm3] at hCu
            have hm23 : m2 = m3 + 1 := by rw [← Hm2.out, List.length_cons, hm3]
            have hsu : ∀ W, (Instr.slice 22 (.slice (some adt) m2 (c - 1)) (some (.int .i64 1)) none none).run Tryd.prog W = .ok (.slice TU m3 (c - 1 - 1)) W := fun W => by
              have h := slice_tail22 (some adt) m2 (c - 1) 1 (by omega) W
              rw [hTU, show m2 - 1 = m3 by omega] at h
              exact h
            have Hm3 := Lib.hid hm3
            have Hm23 := Lib.hid hm23
            obtain ⟨⟨v, ok⟩, hnt⟩ : ∃ r, numberT y = r := ⟨_, rfl⟩
            have hnum := fun W => cachepotref3_number.calls 100 y v ok W (by rw [Hnum.out y (by simp), hnt])
            have hrf := Hrf.out
            simp only [List.headD_cons, List.tail_cons, hnt] at hrf
            have hrs : R = (({ zeroOp 4 with s := v, keys := u }, ok) : OpV × Bool) := by
              rw [show R = (if (y :: u).length = 0 then (zeroOp 0, false) else (({ zeroOp 4 with s := v, keys := u }, ok) : OpV × Bool)) from hrf, if_neg (by simp)]
            have Hrs := Lib.hid hrs
            have hm20 : 0 < m2 := by omega
            have hm21 : m2 ≤ c - 1 := Hct.out
            have t3 : ((m2 : Int) == 0) = false := beq_eq_false_iff_ne.2 (by omega)
            clear hTU hct1 hm3 hm23 hnt hrf hrs Hrf hCt2 h0 hnums
            go_wp2_with fail
            refine (hnum _).mono ?_
            rintro en w5 ⟨rfl, hd5⟩
            have hb5 := hd5.below
            have hlz := (Array.getElem?_eq_some_iff.1 hz4).1
            have hly := (Array.getElem?_eq_some_iff.1 hyi).1
            have hz5 := (hb5.block _ hlz).trans hz4
            have hy5 := (hb5.block _ hly).trans hyi
            have hbx := below_then hbi hbi.size hb5
            clear hnum hd5 c10
            clear p0 p1 p2 p3 p4 p5 p6 p7 p8 p9 pf0 pf1 pf2 pf3 pf4 pf5 pf6 pf7 pf8 pf9
            clear r0 r1 r2 r3 r4 r5 r6 r7 r8 r9 rf0 rf1 rf2 rf3 rf4 rf5 rf6 rf7 rf8 rf9
            obtain ⟨p0, p1, p2, p3, p4, p5, p6, p7, p8, p9⟩ := cells10 hz5
            obtain ⟨pf0, pf1, pf2, pf3, pf4, pf5, pf6, pf7, pf8, pf9⟩ := frozen10 hz5
            obtain ⟨r0, r1, r2, r3, r4, r5, r6, r7, r8, r9⟩ := cells10 hy5
            obtain ⟨rf0, rf1, rf2, rf3, rf4, rf5, rf6, rf7, rf8, rf9⟩ := frozen10 hy5
            go_upto_region 48 with (fail)
            clear p0 p1 p2 p3 p4 p5 p6 p7 p8 p9 pf0 pf1 pf2 pf3 pf4 pf5 pf6 pf7 pf8 pf9
            clear r0 r1 r2 r3 r4 r5 r6 r7 r8 r9 rf0 rf1 rf2 rf3 rf4 rf5 rf6 rf7 rf8 rf9
            have hz6 : (w5.setCell ⟨w.heap.size + 1, 1, none⟩ (.int .i64 v)).heap[w.heap.size + 1]? = some (.cells #[.int .i64 4, .int .i64 v, .string ⟨#[]⟩, .string ⟨#[]⟩, .slice none 0 0, .int .i64 0, .slice none 0 0, .int .i64 0, .int .i64 0, .int .i64 0] 61) := set_heap hz5 1 (.int .i64 v)
            have hy6 := blk_far (p := ⟨w.heap.size + 1, 1, none⟩) hy5 (by simp) (.int .i64 v)
            have hb6 := pw_below_grown hbx _ hbx.size (set_grown w5 (w.heap.size + 1) 1 (.int .i64 v)) (fun q e => by cases e; omega)
            generalize w5.setCell ⟨w.heap.size + 1, 1, none⟩ (.int .i64 v) = w6 at hz6 hy6 hb6 ⊢
            obtain ⟨p0, p1, p2, p3, p4, p5, p6, p7, p8, p9⟩ := cells10 hz6
            obtain ⟨pf0, pf1, pf2, pf3, pf4, pf5, pf6, pf7, pf8, pf9⟩ := frozen10 hz6
            obtain ⟨r0, r1, r2, r3, r4, r5, r6, r7, r8, r9⟩ := cells10 hy6
            obtain ⟨rf0, rf1, rf2, rf3, rf4, rf5, rf6, rf7, rf8, rf9⟩ := frozen10 hy6
            have hRe : R = ({ zeroOp 4 with s := v, keys := u }, ok) := Hrs.out
            have HRe := Lib.hid hRe
            clear hRe
            have hC6 := Kd.C_below hCu hb6
            have hKM : ∀ (x : ByteArray) (cs : List Value), Kd.string.K w6 x cs → Kd.string.M w6 w6.heap.size (fun _ => False) x cs := fun x cs h => h
            have hlen : (([] : List ByteArray).length + m3) * 16 ≤ 140737488355328 := by have := Hm23.out; simp only [List.length_nil]; omega
            go_wp2_with (at_builtin; refine Kd.R_append_rows Kd.string (Rr := Kd.string.K w6) (w0 := w6) w6.heap.size rfl (.const (.slice none 0 0)) (.tmp 191) 22 9 (.string ⟨#[]⟩) 16 rfl Tryd.underlying22 info9 rfl (by decide) (by decide) nilV [] u TU m3 (c - 1 - 1) (fun _ => True) (fun _ => False) rfl rfl (Kd.R_nil _ _ _ _ _) hC6 hKM (fun _ h => h.elim) (fun _ _ => trivial) (Below.refl _ _) (Nat.le_refl _) hlen ?_)
            intro v7 w7 hR7 _ hgr7 _
            obtain ⟨A', c', ev⟩ := Kd.R_slice hR7
            have ev2 : v7 = .slice A' m3 c' := by rw [ev]; show Value.slice A' u.length c' = _; rw [Hm3.out]
            clear ev
            subst ev2
            change Kd.R Kd.string 9 w7 w6.heap.size _ (.slice A' m3 c') u at hR7
            have hlz6 := (Array.getElem?_eq_some_iff.1 hz6).1
            have hly6 := (Array.getElem?_eq_some_iff.1 hy6).1
            have hz7 := (hgr7.block _ hlz6 (by simp [nilV, Value.ownBlock])).trans hz6
            have hy7 := (hgr7.block _ hly6 (by simp [nilV, Value.ownBlock])).trans hy6
            have hb7 := pw_below_grown hb6 _ hb6.size hgr7 (fun q e => by simp [nilV, Value.ownBlock] at e)
            clear hC6 hKM hlen hgr7
            clear p0 p1 p2 p3 p4 p5 p6 p7 p8 p9 pf0 pf1 pf2 pf3 pf4 pf5 pf6 pf7 pf8 pf9
            clear r0 r1 r2 r3 r4 r5 r6 r7 r8 r9 rf0 rf1 rf2 rf3 rf4 rf5 rf6 rf7 rf8 rf9
            obtain ⟨p0, p1, p2, p3, p4, p5, p6, p7, p8, p9⟩ := cells10 hz7
            obtain ⟨pf0, pf1, pf2, pf3, pf4, pf5, pf6, pf7, pf8, pf9⟩ := frozen10 hz7
            obtain ⟨r0, r1, r2, r3, r4, r5, r6, r7, r8, r9⟩ := cells10 hy7
            obtain ⟨rf0, rf1, rf2, rf3, rf4, rf5, rf6, rf7, rf8, rf9⟩ := frozen10 hy7
            go_upto_region 60 with (fail)
            clear p0 p1 p2 p3 p4 p5 p6 p7 p8 p9 pf0 pf1 pf2 pf3 pf4 pf5 pf6 pf7 pf8 pf9
            clear r0 r1 r2 r3 r4 r5 r6 r7 r8 r9 rf0 rf1 rf2 rf3 rf4 rf5 rf6 rf7 rf8 rf9
            have hz8 : (w7.setCell ⟨w.heap.size + 1, 4, none⟩ (.slice A' m3 c')).heap[w.heap.size + 1]? = some (.cells #[.int .i64 4, .int .i64 v, .string ⟨#[]⟩, .string ⟨#[]⟩, .slice A' m3 c', .int .i64 0, .slice none 0 0, .int .i64 0, .int .i64 0, .int .i64 0] 61) := set_heap hz7 4 (.slice A' m3 c')
            have hy8 := blk_far (p := ⟨w.heap.size + 1, 4, none⟩) hy7 (by simp) (.slice A' m3 c')
            have hb8 := pw_below_grown hb7 _ hb7.size (set_grown w7 (w.heap.size + 1) 4 (.slice A' m3 c')) (fun q e => by cases e; omega)
            have hk8 := Kd.R_far (p := ⟨w.heap.size + 1, 4, none⟩) (Kd.R_mono (Kd.R_bound hR7) (fun q hq => (hq.2.1 : w6.heap.size ≤ q))) (fun q hq => by show q ≠ w.heap.size + 1; have : w6.heap.size ≤ q := hq; omega) (.slice A' m3 c')
            generalize w7.setCell ⟨w.heap.size + 1, 4, none⟩ (.slice A' m3 c') = w8 at hz8 hy8 hb8 hk8 ⊢
            obtain ⟨p0, p1, p2, p3, p4, p5, p6, p7, p8, p9⟩ := cells10 hz8
            obtain ⟨pf0, pf1, pf2, pf3, pf4, pf5, pf6, pf7, pf8, pf9⟩ := frozen10 hz8
            obtain ⟨r0, r1, r2, r3, r4, r5, r6, r7, r8, r9⟩ := cells10 hy8
            obtain ⟨rf0, rf1, rf2, rf3, rf4, rf5, rf6, rf7, rf8, rf9⟩ := frozen10 hy8
            go_wp2
            clear p0 p1 p2 p3 p4 p5 p6 p7 p8 p9 pf0 pf1 pf2 pf3 pf4 pf5 pf6 pf7 pf8 pf9
            clear r0 r1 r2 r3 r4 r5 r6 r7 r8 r9 rf0 rf1 rf2 rf3 rf4 rf5 rf6 rf7 rf8 rf9
            have hz9 := put10 hy8 (.int .i64 4) (.int .i64 v) (.string ⟨#[]⟩) (.string ⟨#[]⟩) (.slice A' m3 c') (.int .i64 0) (.slice none 0 0) (.int .i64 0) (.int .i64 0) (.int .i64 0)
            have hg9 := grown10 w8 w.heap.size (.int .i64 4) (.int .i64 v) (.string ⟨#[]⟩) (.string ⟨#[]⟩) (.slice A' m3 c') (.int .i64 0) (.slice none 0 0) (.int .i64 0) (.int .i64 0) (.int .i64 0)
            have hk9 := Kd.R_grown (Kd.R_mono (Kd.R_bound hk8) (fun q hq => (hq.1 : w6.heap.size ≤ q))) hg9 (fun q hq e => by have := Option.some.inj e; have : w6.heap.size ≤ q := hq; omega)
            generalize ((((((((((w8.setCell ⟨w.heap.size, 0, none⟩ (.int .i64 4)).setCell ⟨w.heap.size, 1, none⟩ (.int .i64 v)).setCell ⟨w.heap.size, 2, none⟩ (.string ⟨#[]⟩)).setCell ⟨w.heap.size, 3, none⟩ (.string ⟨#[]⟩)).setCell ⟨w.heap.size, 4, none⟩ (.slice A' m3 c')).setCell ⟨w.heap.size, 5, none⟩ (.int .i64 0)).setCell ⟨w.heap.size, 6, none⟩ (.slice none 0 0)).setCell ⟨w.heap.size, 7, none⟩ (.int .i64 0)).setCell ⟨w.heap.size, 8, none⟩ (.int .i64 0)).setCell ⟨w.heap.size, 9, none⟩ (.int .i64 0)) = w9 at hz9 hg9 hk9 ⊢
            obtain ⟨s0, s1, s2, s3, s4, s5, s6, s7, s8, s9⟩ := cells10 hz9
            have hb9 := pw_below_grown hb8 _ hb8.size hg9 (fun k e => by cases e; exact Nat.le_refl _)
            refine bodyPost_ret (v := .tuple #[.agg #[.int .i64 4, .int .i64 v, .string ⟨#[]⟩, .string ⟨#[]⟩, .slice A' m3 c', .int .i64 0, .slice none 0 0, .int .i64 0, .int .i64 0, .int .i64 0], .bool ok]) (by simp [results, Tryd.results83, go_sem, s0, s1, s2, s3, s4, s5, s6, s7, s8, s9]) rfl ?_
            exact ⟨.slice A' m3 c', .slice none 0 0, by rw [HRe.out]; rfl, by rw [HRe.out]; exact Kd.R_lower (Kd.R_mono hk9 (fun _ _ => trivial)) hb6.size, by rw [HRe.out]; exact Kd.R_nil _ _ _ _ _, hb9⟩
        · have hz4 : wr.heap[w.heap.size + 1]? = some (.cells #[.int .i64 5, .int .i64 0, .string ⟨#[]⟩, .string ⟨#[]⟩, .slice none 0 0, .int .i64 0, .slice none 0 0, .int .i64 0, .int .i64 0, .int .i64 0] 61) := hzk
          obtain ⟨p0, p1, p2, p3, p4, p5, p6, p7, p8, p9⟩ := cells10 hz4
          obtain ⟨pf0, pf1, pf2, pf3, pf4, pf5, pf6, pf7, pf8, pf9⟩ := frozen10 hz4
          obtain ⟨r0, r1, r2, r3, r4, r5, r6, r7, r8, r9⟩ := cells10 hyi
          obtain ⟨rf0, rf1, rf2, rf3, rf4, rf5, rf6, rf7, rf8, rf9⟩ := frozen10 hyi
          by_cases h0 : m2 = 0
          · have hRe : R = (zeroOp 0, false) := by
              obtain rfl : t = [] := List.length_eq_zero_iff.1 (by rw [Hm2.out]; exact h0)
              exact Hrf.out
            have HRe := Lib.hid hRe
            clear hRe
            subst h0
            go_wp2
            clear p0 p1 p2 p3 p4 p5 p6 p7 p8 p9 pf0 pf1 pf2 pf3 pf4 pf5 pf6 pf7 pf8 pf9
            clear r0 r1 r2 r3 r4 r5 r6 r7 r8 r9 rf0 rf1 rf2 rf3 rf4 rf5 rf6 rf7 rf8 rf9
            have hz9 := put10 hyi (.int .i64 0) (.int .i64 0) (.string ⟨#[]⟩) (.string ⟨#[]⟩) (.slice none 0 0) (.int .i64 0) (.slice none 0 0) (.int .i64 0) (.int .i64 0) (.int .i64 0)
            have hg9 := grown10 wr w.heap.size (.int .i64 0) (.int .i64 0) (.string ⟨#[]⟩) (.string ⟨#[]⟩) (.slice none 0 0) (.int .i64 0) (.slice none 0 0) (.int .i64 0) (.int .i64 0) (.int .i64 0)
            generalize ((((((((((wr.setCell ⟨w.heap.size, 0, none⟩ (.int .i64 0)).setCell ⟨w.heap.size, 1, none⟩ (.int .i64 0)).setCell ⟨w.heap.size, 2, none⟩ (.string ⟨#[]⟩)).setCell ⟨w.heap.size, 3, none⟩ (.string ⟨#[]⟩)).setCell ⟨w.heap.size, 4, none⟩ (.slice none 0 0)).setCell ⟨w.heap.size, 5, none⟩ (.int .i64 0)).setCell ⟨w.heap.size, 6, none⟩ (.slice none 0 0)).setCell ⟨w.heap.size, 7, none⟩ (.int .i64 0)).setCell ⟨w.heap.size, 8, none⟩ (.int .i64 0)).setCell ⟨w.heap.size, 9, none⟩ (.int .i64 0)) = w9 at hz9 hg9 ⊢
            obtain ⟨s0, s1, s2, s3, s4, s5, s6, s7, s8, s9⟩ := cells10 hz9
            have hb9 := pw_below_grown hbi _ hbi.size hg9 (fun k e => by cases e; exact Nat.le_refl _)
            refine bodyPost_ret (v := .tuple #[.agg #[.int .i64 0, .int .i64 0, .string ⟨#[]⟩, .string ⟨#[]⟩, .slice none 0 0, .int .i64 0, .slice none 0 0, .int .i64 0, .int .i64 0, .int .i64 0], .bool false]) (by simp [results, Tryd.results83, go_sem, s0, s1, s2, s3, s4, s5, s6, s7, s8, s9]) rfl ?_
            exact ⟨.slice none 0 0, .slice none 0 0, by rw [HRe.out]; rfl, by rw [HRe.out]; exact Kd.R_nil _ _ _ _ _, by rw [HRe.out]; exact Kd.R_nil _ _ _ _ _, hb9⟩
          · obtain ⟨y, u, rfl⟩ : ∃ y u, t = y :: u := by
              cases t with
              | nil => exact absurd Hm2.out (by simp only [List.length_nil]; exact fun h => h0 h.symm)
              | cons y u => exact ⟨y, u, rfl⟩
            obtain ⟨adt, et, c1⟩ := Kd.at_string (Kd.C_below hCt hbi) 0 (by decide) (by omega)
            subst et
            have c10 : wr.cell? adt = some (.string y) := by
              have h := c1
              rw [show adt.add (0 : Int).toNat = adt by simp [Addr.add]] at h
              exact h
            clear c1
            have hCt2 : Kd.C Kd.string w (some adt) (y :: u).length (y :: u) := by rw [Hm2.out]; exact hCt
            have hct1 : (y :: u).length ≤ c - 1 := by rw [Hm2.out]; exact Hct.out
            have hCu := Kd.C_drop (c := c - 1) (m := 1) hCt2 (by rw [List.length_cons]; omega) hct1
            rw [show (Kd.string).sz = 1 from rfl, Nat.one_mul] at hCu
            obtain ⟨TU, hTU⟩ : ∃ TU, (if c - 1 = 1 then some adt else (some adt).map (·.add 1)) = TU := ⟨_, rfl⟩
            rw [hTU] at hCu
            change Kd.C Kd.string w TU u.length u at hCu
            obtain ⟨m3, hm3⟩ : ∃ m3, u.length = m3 := ⟨_, rfl⟩
            rw [hm3] at hCu
            have hm23 : m2 = m3 + 1 := by rw [← Hm2.out, List.length_cons, hm3]
            have hsu : ∀ W, (Instr.slice 22 (.slice (some adt) m2 (c - 1)) (some (.int .i64 1)) none none).run Tryd.prog W = .ok (.slice TU m3 (c - 1 - 1)) W := fun W => by
              have h := slice_tail22 (some adt) m2 (c - 1) 1 (by omega) W
              rw [hTU, show m2 - 1 = m3 by omega] at h
              exact h
            have Hm3 := Lib.hid hm3
            have Hm23 := Lib.hid hm23
            obtain ⟨⟨v, ok⟩, hnt⟩ : ∃ r, numberT y = r := ⟨_, rfl⟩
            have hnum := fun W => cachepotref3_number.calls 100 y v ok W (by rw [Hnum.out y (by simp), hnt])
            have hrf := Hrf.out
            simp only [List.headD_cons, List.tail_cons, hnt] at hrf
            have hrs : R = (({ zeroOp 5 with s := v }, ok && decide (u.length = 0)) : OpV × Bool) := by
              rw [show R = (if (y :: u).length = 0 then (zeroOp 0, false) else (({ zeroOp 5 with s := v }, ok && decide (u.length = 0)) : OpV × Bool)) from hrf, if_neg (by simp)]
            have Hrs := Lib.hid hrs
            have hm20 : 0 < m2 := by omega
            have hm21 : m2 ≤ c - 1 := Hct.out
            have t3 : ((m2 : Int) == 0) = false := beq_eq_false_iff_ne.2 (by omega)
            clear hTU hct1 hm3 hm23 hnt hrf hrs Hrf hCt2 h0 hnums
            go_wp2_with fail
            refine (hnum _).mono ?_
            rintro en w5 ⟨rfl, hd5⟩
            have hb5 := hd5.below
            have hlz := (Array.getElem?_eq_some_iff.1 hz4).1
            have hly := (Array.getElem?_eq_some_iff.1 hyi).1
            have hz5 := (hb5.block _ hlz).trans hz4
            have hy5 := (hb5.block _ hly).trans hyi
            have hbx := below_then hbi hbi.size hb5
            clear hnum hd5 c10
            clear p0 p1 p2 p3 p4 p5 p6 p7 p8 p9 pf0 pf1 pf2 pf3 pf4 pf5 pf6 pf7 pf8 pf9
            clear r0 r1 r2 r3 r4 r5 r6 r7 r8 r9 rf0 rf1 rf2 rf3 rf4 rf5 rf6 rf7 rf8 rf9
            obtain ⟨p0, p1, p2, p3, p4, p5, p6, p7, p8, p9⟩ := cells10 hz5
            obtain ⟨pf0, pf1, pf2, pf3, pf4, pf5, pf6, pf7, pf8, pf9⟩ := frozen10 hz5
            obtain ⟨r0, r1, r2, r3, r4, r5, r6, r7, r8, r9⟩ := cells10 hy5
            obtain ⟨rf0, rf1, rf2, rf3, rf4, rf5, rf6, rf7, rf8, rf9⟩ := frozen10 hy5
            go_upto_region 48 with (fail)
            clear p0 p1 p2 p3 p4 p5 p6 p7 p8 p9 pf0 pf1 pf2 pf3 pf4 pf5 pf6 pf7 pf8 pf9
            clear r0 r1 r2 r3 r4 r5 r6 r7 r8 r9 rf0 rf1 rf2 rf3 rf4 rf5 rf6 rf7 rf8 rf9
            have hz6 : (w5.setCell ⟨w.heap.size + 1, 1, none⟩ (.int .i64 v)).heap[w.heap.size + 1]? = some (.cells #[.int .i64 5, .int .i64 v, .string ⟨#[]⟩, .string ⟨#[]⟩, .slice none 0 0, .int .i64 0, .slice none 0 0, .int .i64 0, .int .i64 0, .int .i64 0] 61) := set_heap hz5 1 (.int .i64 v)
            have hy6 := blk_far (p := ⟨w.heap.size + 1, 1, none⟩) hy5 (by simp) (.int .i64 v)
            have hb6 := pw_below_grown hbx _ hbx.size (set_grown w5 (w.heap.size + 1) 1 (.int .i64 v)) (fun q e => by cases e; omega)
            generalize w5.setCell ⟨w.heap.size + 1, 1, none⟩ (.int .i64 v) = w6 at hz6 hy6 hb6 ⊢
            obtain ⟨p0, p1, p2, p3, p4, p5, p6, p7, p8, p9⟩ := cells10 hz6
            obtain ⟨pf0, pf1, pf2, pf3, pf4, pf5, pf6, pf7, pf8, pf9⟩ := frozen10 hz6
            obtain ⟨r0, r1, r2, r3, r4, r5, r6, r7, r8, r9⟩ := cells10 hy6
            obtain ⟨rf0, rf1, rf2, rf3, rf4, rf5, rf6, rf7, rf8, rf9⟩ := frozen10 hy6
            cases ok
            · have hRe : R = ({ zeroOp 5 with s := v }, false) := Hrs.out
              have HRe := Lib.hid hRe
              clear hRe
              go_wp2
              clear p0 p1 p2 p3 p4 p5 p6 p7 p8 p9 pf0 pf1 pf2 pf3 pf4 pf5 pf6 pf7 pf8 pf9
              clear r0 r1 r2 r3 r4 r5 r6 r7 r8 r9 rf0 rf1 rf2 rf3 rf4 rf5 rf6 rf7 rf8 rf9
              have hz9 := put10 hy6 (.int .i64 5) (.int .i64 v) (.string ⟨#[]⟩) (.string ⟨#[]⟩) (.slice none 0 0) (.int .i64 0) (.slice none 0 0) (.int .i64 0) (.int .i64 0) (.int .i64 0)
              have hg9 := grown10 w6 w.heap.size (.int .i64 5) (.int .i64 v) (.string ⟨#[]⟩) (.string ⟨#[]⟩) (.slice none 0 0) (.int .i64 0) (.slice none 0 0) (.int .i64 0) (.int .i64 0) (.int .i64 0)
              generalize ((((((((((w6.setCell ⟨w.heap.size, 0, none⟩ (.int .i64 5)).setCell ⟨w.heap.size, 1, none⟩ (.int .i64 v)).setCell ⟨w.heap.size, 2, none⟩ (.string ⟨#[]⟩)).setCell ⟨w.heap.size, 3, none⟩ (.string ⟨#[]⟩)).setCell ⟨w.heap.size, 4, none⟩ (.slice none 0 0)).setCell ⟨w.heap.size, 5, none⟩ (.int .i64 0)).setCell ⟨w.heap.size, 6, none⟩ (.slice none 0 0)).setCell ⟨w.heap.size, 7, none⟩ (.int .i64 0)).setCell ⟨w.heap.size, 8, none⟩ (.int .i64 0)).setCell ⟨w.heap.size, 9, none⟩ (.int .i64 0)) = w9 at hz9 hg9 ⊢
              obtain ⟨s0, s1, s2, s3, s4, s5, s6, s7, s8, s9⟩ := cells10 hz9
              have hb9 := pw_below_grown hb6 _ hb6.size hg9 (fun k e => by cases e; exact Nat.le_refl _)
              refine bodyPost_ret (v := .tuple #[.agg #[.int .i64 5, .int .i64 v, .string ⟨#[]⟩, .string ⟨#[]⟩, .slice none 0 0, .int .i64 0, .slice none 0 0, .int .i64 0, .int .i64 0, .int .i64 0], .bool false]) (by simp [results, Tryd.results83, go_sem, s0, s1, s2, s3, s4, s5, s6, s7, s8, s9]) rfl ?_
              exact ⟨.slice none 0 0, .slice none 0 0, by rw [HRe.out]; rfl, by rw [HRe.out]; exact Kd.R_nil _ _ _ _ _, by rw [HRe.out]; exact Kd.R_nil _ _ _ _ _, hb9⟩
            · by_cases h3 : m3 = 0
              · have hRe : R = ({ zeroOp 5 with s := v }, true) := by rw [Hrs.out, decide_eq_true (by rw [Hm3.out]; exact h3)]; rfl
                have HRe := Lib.hid hRe
                clear hRe
                subst h3
                go_wp2
                clear p0 p1 p2 p3 p4 p5 p6 p7 p8 p9 pf0 pf1 pf2 pf3 pf4 pf5 pf6 pf7 pf8 pf9
                clear r0 r1 r2 r3 r4 r5 r6 r7 r8 r9 rf0 rf1 rf2 rf3 rf4 rf5 rf6 rf7 rf8 rf9
                have hz9 := put10 hy6 (.int .i64 5) (.int .i64 v) (.string ⟨#[]⟩) (.string ⟨#[]⟩) (.slice none 0 0) (.int .i64 0) (.slice none 0 0) (.int .i64 0) (.int .i64 0) (.int .i64 0)
                have hg9 := grown10 w6 w.heap.size (.int .i64 5) (.int .i64 v) (.string ⟨#[]⟩) (.string ⟨#[]⟩) (.slice none 0 0) (.int .i64 0) (.slice none 0 0) (.int .i64 0) (.int .i64 0) (.int .i64 0)
                generalize ((((((((((w6.setCell ⟨w.heap.size, 0, none⟩ (.int .i64 5)).setCell ⟨w.heap.size, 1, none⟩ (.int .i64 v)).setCell ⟨w.heap.size, 2, none⟩ (.string ⟨#[]⟩)).setCell ⟨w.heap.size, 3, none⟩ (.string ⟨#[]⟩)).setCell ⟨w.heap.size, 4, none⟩ (.slice none 0 0)).setCell ⟨w.heap.size, 5, none⟩ (.int .i64 0)).setCell ⟨w.heap.size, 6, none⟩ (.slice none 0 0)).setCell ⟨w.heap.size, 7, none⟩ (.int .i64 0)).setCell ⟨w.heap.size, 8, none⟩ (.int .i64 0)).setCell ⟨w.heap.size, 9, none⟩ (.int .i64 0)) = w9 at hz9 hg9 ⊢
                obtain ⟨s0, s1, s2, s3, s4, s5, s6, s7, s8, s9⟩ := cells10 hz9
                have hb9 := pw_below_grown hb6 _ hb6.size hg9 (fun k e => by cases e; exact Nat.le_refl _)
                refine bodyPost_ret (v := .tuple #[.agg #[.int .i64 5, .int .i64 v, .string ⟨#[]⟩, .string ⟨#[]⟩, .slice none 0 0, .int .i64 0, .slice none 0 0, .int .i64 0, .int .i64 0, .int .i64 0], .bool true]) (by simp [results, Tryd.results83, go_sem, s0, s1, s2, s3, s4, s5, s6, s7, s8, s9]) rfl ?_
                exact ⟨.slice none 0 0, .slice none 0 0, by rw [HRe.out]; rfl, by rw [HRe.out]; exact Kd.R_nil _ _ _ _ _, by rw [HRe.out]; exact Kd.R_nil _ _ _ _ _, hb9⟩
              · have hRe : R = ({ zeroOp 5 with s := v }, false) := by rw [Hrs.out, decide_eq_false (by rw [Hm3.out]; exact h3)]; rfl
                have HRe := Lib.hid hRe
                clear hRe
                have t4 : ((m3 : Int) == 0) = false := beq_eq_false_iff_ne.2 (by omega)
                clear h3
                go_wp2
                clear p0 p1 p2 p3 p4 p5 p6 p7 p8 p9 pf0 pf1 pf2 pf3 pf4 pf5 pf6 pf7 pf8 pf9
                clear r0 r1 r2 r3 r4 r5 r6 r7 r8 r9 rf0 rf1 rf2 rf3 rf4 rf5 rf6 rf7 rf8 rf9
                have hz9 := put10 hy6 (.int .i64 5) (.int .i64 v) (.string ⟨#[]⟩) (.string ⟨#[]⟩) (.slice none 0 0) (.int .i64 0) (.slice none 0 0) (.int .i64 0) (.int .i64 0) (.int .i64 0)
                have hg9 := grown10 w6 w.heap.size (.int .i64 5) (.int .i64 v) (.string ⟨#[]⟩) (.string ⟨#[]⟩) (.slice none 0 0) (.int .i64 0) (.slice none 0 0) (.int .i64 0) (.int .i64 0) (.int .i64 0)
                generalize ((((((((((w6.setCell ⟨w.heap.size, 0, none⟩ (.int .i64 5)).setCell ⟨w.heap.size, 1, none⟩ (.int .i64 v)).setCell ⟨w.heap.size, 2, none⟩ (.string ⟨#[]⟩)).setCell ⟨w.heap.size, 3, none⟩ (.string ⟨#[]⟩)).setCell ⟨w.heap.size, 4, none⟩ (.slice none 0 0)).setCell ⟨w.heap.size, 5, none⟩ (.int .i64 0)).setCell ⟨w.heap.size, 6, none⟩ (.slice none 0 0)).setCell ⟨w.heap.size, 7, none⟩ (.int .i64 0)).setCell ⟨w.heap.size, 8, none⟩ (.int .i64 0)).setCell ⟨w.heap.size, 9, none⟩ (.int .i64 0)) = w9 at hz9 hg9 ⊢
                obtain ⟨s0, s1, s2, s3, s4, s5, s6, s7, s8, s9⟩ := cells10 hz9
                have hb9 := pw_below_grown hb6 _ hb6.size hg9 (fun k e => by cases e; exact Nat.le_refl _)
                refine bodyPost_ret (v := .tuple #[.agg #[.int .i64 5, .int .i64 v, .string ⟨#[]⟩, .string ⟨#[]⟩, .slice none 0 0, .int .i64 0, .slice none 0 0, .int .i64 0, .int .i64 0, .int .i64 0], .bool false]) (by simp [results, Tryd.results83, go_sem, s0, s1, s2, s3, s4, s5, s6, s7, s8, s9]) rfl ?_
                exact ⟨.slice none 0 0, .slice none 0 0, by rw [HRe.out]; rfl, by rw [HRe.out]; exact Kd.R_nil _ _ _ _ _, by rw [HRe.out]; exact Kd.R_nil _ _ _ _ _, hb9⟩
        · have hz4 : wr.heap[w.heap.size + 1]? = some (.cells #[.int .i64 6, .int .i64 0, .string ⟨#[]⟩, .string ⟨#[]⟩, .slice none 0 0, .int .i64 0, .slice none 0 0, .int .i64 0, .int .i64 0, .int .i64 0] 61) := hzk
          obtain ⟨p0, p1, p2, p3, p4, p5, p6, p7, p8, p9⟩ := cells10 hz4
          obtain ⟨pf0, pf1, pf2, pf3, pf4, pf5, pf6, pf7, pf8, pf9⟩ := frozen10 hz4
          obtain ⟨r0, r1, r2, r3, r4, r5, r6, r7, r8, r9⟩ := cells10 hyi
          obtain ⟨rf0, rf1, rf2, rf3, rf4, rf5, rf6, rf7, rf8, rf9⟩ := frozen10 hyi
          by_cases h0 : m2 = 0
          · have hRe : R = (zeroOp 0, false) := by
              obtain rfl : t = [] := List.length_eq_zero_iff.1 (by rw [Hm2.out]; exact h0)
              exact Hrf.out
            have HRe := Lib.hid hRe
            clear hRe
            subst h0
            go_wp2
            clear p0 p1 p2 p3 p4 p5 p6 p7 p8 p9 pf0 pf1 pf2 pf3 pf4 pf5 pf6 pf7 pf8 pf9
            clear r0 r1 r2 r3 r4 r5 r6 r7 r8 r9 rf0 rf1 rf2 rf3 rf4 rf5 rf6 rf7 rf8 rf9
            have hz9 := put10 hyi (.int .i64 0) (.int .i64 0) (.string ⟨#[]⟩) (.string ⟨#[]⟩) (.slice none 0 0) (.int .i64 0) (.slice none 0 0) (.int .i64 0) (.int .i64 0) (.int .i64 0)
            have hg9 := grown10 wr w.heap.size (.int .i64 0) (.int .i64 0) (.string ⟨#[]⟩) (.string ⟨#[]⟩) (.slice none 0 0) (.int .i64 0) (.slice none 0 0) (.int .i64 0) (.int .i64 0) (.int .i64 0)
            generalize ((((((((((wr.setCell ⟨w.heap.size, 0, none⟩ (.int .i64 0)).setCell ⟨w.heap.size, 1, none⟩ (.int .i64 0)).setCell ⟨w.heap.size, 2, none⟩ (.string ⟨#[]⟩)).setCell ⟨w.heap.size, 3, none⟩ (.string ⟨#[]⟩)).setCell ⟨w.heap.size, 4, none⟩ (.slice none 0 0)).setCell ⟨w.heap.size, 5, none⟩ (.int .i64 0)).setCell ⟨w.heap.size, 6, none⟩ (.slice none 0 0)).setCell ⟨w.heap.size, 7, none⟩ (.int .i64 0)).setCell ⟨w.heap.size, 8, none⟩ (.int .i64 0)).setCell ⟨w.heap.size, 9, none⟩ (.int .i64 0)) = w9 at hz9 hg9 ⊢
            obtain ⟨s0, s1, s2, s3, s4, s5, s6, s7, s8, s9⟩ := cells10 hz9
            have hb9 := pw_below_grown hbi _ hbi.size hg9 (fun k e => by cases e; exact Nat.le_refl _)
            refine bodyPost_ret (v := .tuple #[.agg #[.int .i64 0, .int .i64 0, .string ⟨#[]⟩, .string ⟨#[]⟩, .slice none 0 0, .int .i64 0, .slice none 0 0, .int .i64 0, .int .i64 0, .int .i64 0], .bool false]) (by simp [results, Tryd.results83, go_sem, s0, s1, s2, s3, s4, s5, s6, s7, s8, s9]) rfl ?_
            exact ⟨.slice none 0 0, .slice none 0 0, by rw [HRe.out]; rfl, by rw [HRe.out]; exact Kd.R_nil _ _ _ _ _, by rw [HRe.out]; exact Kd.R_nil _ _ _ _ _, hb9⟩
          · obtain ⟨y, u, rfl⟩ : ∃ y u, t = y :: u := by
              cases t with
              | nil => exact absurd Hm2.out (by simp only [List.length_nil]; exact fun h => h0 h.symm)
              | cons y u => exact ⟨y, u, rfl⟩
            obtain ⟨adt, et, c1⟩ := Kd.at_string (Kd.C_below hCt hbi) 0 (by decide) (by omega)
            subst et
            have c10 : wr.cell? adt = some (.string y) := by
              have h := c1
              rw [show adt.add (0 : Int).toNat = adt by simp [Addr.add]] at h
              exact h
            clear c1
            have hCt2 : Kd.C Kd.string w (some adt) (y :: u).length (y :: u) := by rw [Hm2.out]; exact hCt
            have hct1 : (y :: u).length ≤ c - 1 := by rw [Hm2.out]; exact Hct.out
            have hCu := Kd.C_drop (c := c - 1) (m := 1) hCt2 (by rw [List.length_cons]; omega) hct1
            rw [show (Kd.string).sz = 1 from rfl, Nat.one_mul] at hCu
            obtain ⟨TU, hTU⟩ : ∃ TU, (if c - 1 = 1 then some adt else (some adt).map (·.add 1)) = TU := ⟨_, rfl⟩
            rw [hTU] at hCu
            change Kd.C Kd.string w TU u.length u at hCu
            obtain ⟨m3, hm3⟩ : ∃ m3, u.length = m3 := ⟨_, rfl⟩
            rw [hm3] at hCu
            have hm23 : m2 = m3 + 1 := by rw [← Hm2.out, List.length_cons, hm3]
            have hsu : ∀ W, (Instr.slice 22 (.slice (some adt) m2 (c - 1)) (some (.int .i64 1)) none none).run Tryd.prog W = .ok (.slice TU m3 (c - 1 - 1)) W := fun W => by
              have h := slice_tail22 (some adt) m2 (c - 1) 1 (by omega) W
              rw [hTU, show m2 - 1 = m3 by omega] at h
              exact h
            have Hm3 := Lib.hid hm3
            have Hm23 := Lib.hid hm23
            obtain ⟨⟨v, ok⟩, hnt⟩ : ∃ r, numberT y = r := ⟨_, rfl⟩
            have hnum := fun W => cachepotref3_number.calls 100 y v ok W (by rw [Hnum.out y (by simp), hnt])
            have hrf := Hrf.out
            simp only [List.headD_cons, List.tail_cons, hnt] at hrf
            have hrs : R = (({ zeroOp 6 with s := v }, ok && decide (u.length = 0)) : OpV × Bool) := by
              rw [show R = (if (y :: u).length = 0 then (zeroOp 0, false) else (({ zeroOp 6 with s := v }, ok && decide (u.length = 0)) : OpV × Bool)) from hrf, if_neg (by simp)]
            have Hrs := Lib.hid hrs
            have hm20 : 0 < m2 := by omega
            have hm21 : m2 ≤ c - 1 := Hct.out
            have t3 : ((m2 : Int) == 0) = false := beq_eq_false_iff_ne.2 (by omega)
            clear hTU hct1 hm3 hm23 hnt hrf hrs Hrf hCt2 h0 hnums
            go_wp2_with fail
            refine (hnum _).mono ?_
            rintro en w5 ⟨rfl, hd5⟩
            have hb5 := hd5.below
            have hlz := (Array.getElem?_eq_some_iff.1 hz4).1
            have hly := (Array.getElem?_eq_some_iff.1 hyi).1
            have hz5 := (hb5.block _ hlz).trans hz4
            have hy5 := (hb5.block _ hly).trans hyi
            have hbx := below_then hbi hbi.size hb5
            clear hnum hd5 c10
            clear p0 p1 p2 p3 p4 p5 p6 p7 p8 p9 pf0 pf1 pf2 pf3 pf4 pf5 pf6 pf7 pf8 pf9
            clear r0 r1 r2 r3 r4 r5 r6 r7 r8 r9 rf0 rf1 rf2 rf3 rf4 rf5 rf6 rf7 rf8 rf9
            obtain ⟨p0, p1, p2, p3, p4, p5, p6, p7, p8, p9⟩ := cells10 hz5
            obtain ⟨pf0, pf1, pf2, pf3, pf4, pf5, pf6, pf7, pf8, pf9⟩ := frozen10 hz5
            obtain ⟨r0, r1, r2, r3, r4, r5, r6, r7, r8, r9⟩ := cells10 hy5
            obtain ⟨rf0, rf1, rf2, rf3, rf4, rf5, rf6, rf7, rf8, rf9⟩ := frozen10 hy5
            go_upto_region 48 with (fail)
            clear p0 p1 p2 p3 p4 p5 p6 p7 p8 p9 pf0 pf1 pf2 pf3 pf4 pf5 pf6 pf7 pf8 pf9
            clear r0 r1 r2 r3 r4 r5 r6 r7 r8 r9 rf0 rf1 rf2 rf3 rf4 rf5 rf6 rf7 rf8 rf9
            have hz6 : (w5.setCell ⟨w.heap.size + 1, 1, none⟩ (.int .i64 v)).heap[w.heap.size + 1]? = some (.cells #[.int .i64 6, .int .i64 v, .string ⟨#[]⟩, .string ⟨#[]⟩, .slice none 0 0, .int .i64 0, .slice none 0 0, .int .i64 0, .int .i64 0, .int .i64 0] 61) := set_heap hz5 1 (.int .i64 v)
            have hy6 := blk_far (p := ⟨w.heap.size + 1, 1, none⟩) hy5 (by simp) (.int .i64 v)
            have hb6 := pw_below_grown hbx _ hbx.size (set_grown w5 (w.heap.size + 1) 1 (.int .i64 v)) (fun q e => by cases e; omega)
            generalize w5.setCell ⟨w.heap.size + 1, 1, none⟩ (.int .i64 v) = w6 at hz6 hy6 hb6 ⊢
            obtain ⟨p0, p1, p2, p3, p4, p5, p6, p7, p8, p9⟩ := cells10 hz6
            obtain ⟨pf0, pf1, pf2, pf3, pf4, pf5, pf6, pf7, pf8, pf9⟩ := frozen10 hz6
            obtain ⟨r0, r1, r2, r3, r4, r5, r6, r7, r8, r9⟩ := cells10 hy6
            obtain ⟨rf0, rf1, rf2, rf3, rf4, rf5, rf6, rf7, rf8, rf9⟩ := frozen10 hy6
            cases ok
            · have hRe : R = ({ zeroOp 6 with s := v }, false) := Hrs.out
              have HRe := Lib.hid hRe
              clear hRe
              go_wp2
              clear p0 p1 p2 p3 p4 p5 p6 p7 p8 p9 pf0 pf1 pf2 pf3 pf4 pf5 pf6 pf7 pf8 pf9
              clear r0 r1 r2 r3 r4 r5 r6 r7 r8 r9 rf0 rf1 rf2 rf3 rf4 rf5 rf6 rf7 rf8 rf9
              have hz9 := put10 hy6 (.int .i64 6) (.int .i64 v) (.string ⟨#[]⟩) (.string ⟨#[]⟩) (.slice none 0 0) (.int .i64 0) (.slice none 0 0) (.int .i64 0) (.int .i64 0) (.int .i64 0)
              have hg9 := grown10 w6 w.heap.size (.int .i64 6) (.int .i64 v) (.string ⟨#[]⟩) (.string ⟨#[]⟩) (.slice none 0 0) (.int .i64 0) (.slice none 0 0) (.int .i64 0) (.int .i64 0) (.int .i64 0)
              generalize ((((((((((w6.setCell ⟨w.heap.size, 0, none⟩ (.int .i64 6)).setCell ⟨w.heap.size, 1, none⟩ (.int .i64 v)).setCell ⟨w.heap.size, 2, none⟩ (.string ⟨#[]⟩)).setCell ⟨w.heap.size, 3, none⟩ (.string ⟨#[]⟩)).setCell ⟨w.heap.size, 4, none⟩ (.slice none 0 0)).setCell ⟨w.heap.size, 5, none⟩ (.int .i64 0)).setCell ⟨w.heap.size, 6, none⟩ (.slice none 0 0)).setCell ⟨w.heap.size, 7, none⟩ (.int .i64 0)).setCell ⟨w.heap.size, 8, none⟩ (.int .i64 0)).setCell ⟨w.heap.size, 9, none⟩ (.int .i64 0)) = w9 at hz9 hg9 ⊢
              obtain ⟨s0, s1, s2, s3, s4, s5, s6, s7, s8, s9⟩ := cells10 hz9
              have hb9 := pw_below_grown hb6 _ hb6.size hg9 (fun k e => by cases e; exact Nat.le_refl _)
              refine bodyPost_ret (v := .tuple #[.agg #[.int .i64 6, .int .i64 v, .string ⟨#[]⟩, .string ⟨#[]⟩, .slice none 0 0, .int .i64 0, .slice none 0 0, .int .i64 0, .int .i64 0, .int .i64 0], .bool false]) (by simp [results, Tryd.results83, go_sem, s0, s1, s2, s3, s4, s5, s6, s7, s8, s9]) rfl ?_
              exact ⟨.slice none 0 0, .slice none 0 0, by rw [HRe.out]; rfl, by rw [HRe.out]; exact Kd.R_nil _ _ _ _ _, by rw [HRe.out]; exact Kd.R_nil _ _ _ _ _, hb9⟩
            · by_cases h3 : m3 = 0
              · have hRe : R = ({ zeroOp 6 with s := v }, true) := by rw [Hrs.out, decide_eq_true (by rw [Hm3.out]; exact h3)]; rfl
                have HRe := Lib.hid hRe
                clear hRe
                subst h3
                go_wp2
                clear p0 p1 p2 p3 p4 p5 p6 p7 p8 p9 pf0 pf1 pf2 pf3 pf4 pf5 pf6 pf7 pf8 pf9
                clear r0 r1 r2 r3 r4 r5 r6 r7 r8 r9 rf0 rf1 rf2 rf3 rf4 rf5 rf6 rf7 rf8 rf9
                have hz9 := put10 hy6 (.int .i64 6) (.int .i64 v) (.string ⟨#[]⟩) (.string ⟨#[]⟩) (.slice none 0 0) (.int .i64 0) (.slice none 0 0) (.int .i64 0) (.int .i64 0) (.int .i64 0)
                have hg9 := grown10 w6 w.heap.size (.int .i64 6) (.int .i64 v) (.string ⟨#[]⟩) (.string ⟨#[]⟩) (.slice none 0 0) (.int .i64 0) (.slice none 0 0) (.int .i64 0) (.int .i64 0) (.int .i64 0)
                generalize ((((((((((w6.setCell ⟨w.heap.size, 0, none⟩ (.int .i64 6)).setCell ⟨w.heap.size, 1, none⟩ (.int .i64 v)).setCell ⟨w.heap.size, 2, none⟩ (.string ⟨#[]⟩)).setCell ⟨w.heap.size, 3, none⟩ (.string ⟨#[]⟩)).setCell ⟨w.heap.size, 4, none⟩ (.slice none 0 0)).setCell ⟨w.heap.size, 5, none⟩ (.int .i64 0)).setCell ⟨w.heap.size, 6, none⟩ (.slice none 0 0)).setCell ⟨w.heap.size, 7, none⟩ (.int .i64 0)).setCell ⟨w.heap.size, 8, none⟩ (.int .i64 0)).setCell ⟨w.heap.size, 9, none⟩ (.int .i64 0)) = w9 at hz9 hg9 ⊢
                obtain ⟨s0, s1, s2, s3, s4, s5, s6, s7, s8, s9⟩ := cells10 hz9
                have hb9 := pw_below_grown hb6 _ hb6.size hg9 (fun k e => by cases e; exact Nat.le_refl _)
                refine bodyPost_ret (v := .tuple #[.agg #[.int .i64 6, .int .i64 v, .string ⟨#[]⟩, .string ⟨#[]⟩, .slice none 0 0, .int .i64 0, .slice none 0 0, .int .i64 0, .int .i64 0, .int .i64 0], .bool true]) (by simp [results, Tryd.results83, go_sem, s0, s1, s2, s3, s4, s5, s6, s7, s8, s9]) rfl ?_
                exact ⟨.slice none 0 0, .slice none 0 0, by rw [HRe.out]; rfl, by rw [HRe.out]; exact Kd.R_nil _ _ _ _ _, by rw [HRe.out]; exact Kd.R_nil _ _ _ _ _, hb9⟩
              · have hRe : R = ({ zeroOp 6 with s := v }, false) := by rw [Hrs.out, decide_eq_false (by rw [Hm3.out]; exact h3)]; rfl
                have HRe := Lib.hid hRe
                clear hRe
                have t4 : ((m3 : Int) == 0) = false := beq_eq_false_iff_ne.2 (by omega)
                clear h3
                go_wp2
                clear p0 p1 p2 p3 p4 p5 p6 p7 p8 p9 pf0 pf1 pf2 pf3 pf4 pf5 pf6 pf7 pf8 pf9
                clear r0 r1 r2 r3 r4 r5 r6 r7 r8 r9 rf0 rf1 rf2 rf3 rf4 rf5 rf6 rf7 rf8 rf9
                have hz9 := put10 hy6 (.int .i64 6) (.int .i64 v) (.string ⟨#[]⟩) (.string ⟨#[]⟩) (.slice none 0 0) (.int .i64 0) (.slice none 0 0) (.int .i64 0) (.int .i64 0) (.int .i64 0)
                have hg9 := grown10 w6 w.heap.size (.int .i64 6) (.int .i64 v) (.string ⟨#[]⟩) (.string ⟨#[]⟩) (.slice none 0 0) (.int .i64 0) (.slice none 0 0) (.int .i64 0) (.int .i64 0) (.int .i64 0)
                generalize ((((((((((w6.setCell ⟨w.heap.size, 0, none⟩ (.int .i64 6)).setCell ⟨w.heap.size, 1, none⟩ (.int .i64 v)).setCell ⟨w.heap.size, 2, none⟩ (.string ⟨#[]⟩)).setCell ⟨w.heap.size, 3, none⟩ (.string ⟨#[]⟩)).setCell ⟨w.heap.size, 4, none⟩ (.slice none 0 0)).setCell ⟨w.heap.size, 5, none⟩ (.int .i64 0)).setCell ⟨w.heap.size, 6, none⟩ (.slice none 0 0)).setCell ⟨w.heap.size, 7, none⟩ (.int .i64 0)).setCell ⟨w.heap.size, 8, none⟩ (.int .i64 0)).setCell ⟨w.heap.size, 9, none⟩ (.int .i64 0)) = w9 at hz9 hg9 ⊢
                obtain ⟨s0, s1, s2, s3, s4, s5, s6, s7, s8, s9⟩ := cells10 hz9
                have hb9 := pw_below_grown hb6 _ hb6.size hg9 (fun k e => by cases e; exact Nat.le_refl _)
                refine bodyPost_ret (v := .tuple #[.agg #[.int .i64 6, .int .i64 v, .string ⟨#[]⟩, .string ⟨#[]⟩, .slice none 0 0, .int .i64 0, .slice none 0 0, .int .i64 0, .int .i64 0, .int .i64 0], .bool false]) (by simp [results, Tryd.results83, go_sem, s0, s1, s2, s3, s4, s5, s6, s7, s8, s9]) rfl ?_
                exact ⟨.slice none 0 0, .slice none 0 0, by rw [HRe.out]; rfl, by rw [HRe.out]; exact Kd.R_nil _ _ _ _ _, by rw [HRe.out]; exact Kd.R_nil _ _ _ _ _, hb9⟩
        · have hz4 : wr.heap[w.heap.size + 1]? = some (.cells #[.int .i64 7, .int .i64 0, .string ⟨#[]⟩, .string ⟨#[]⟩, .slice none 0 0, .int .i64 0, .slice none 0 0, .int .i64 0, .int .i64 0, .int .i64 0] 61) := hzk
          obtain ⟨p0, p1, p2, p3, p4, p5, p6, p7, p8, p9⟩ := cells10 hz4
          obtain ⟨pf0, pf1, pf2, pf3, pf4, pf5, pf6, pf7, pf8, pf9⟩ := frozen10 hz4
          obtain ⟨r0, r1, r2, r3, r4, r5, r6, r7, r8, r9⟩ := cells10 hyi
          obtain ⟨rf0, rf1, rf2, rf3, rf4, rf5, rf6, rf7, rf8, rf9⟩ := frozen10 hyi
          by_cases h0 : m2 = 0
          · subst h0
            have hRe : R = (zeroOp 7, true) := by rw [show R = (zeroOp 7, decide (t.length = 0)) from Hrf.out, decide_eq_true Hm2.out]
            have HRe := Lib.hid hRe
            clear hRe
            go_wp2
            clear p0 p1 p2 p3 p4 p5 p6 p7 p8 p9 pf0 pf1 pf2 pf3 pf4 pf5 pf6 pf7 pf8 pf9
            clear r0 r1 r2 r3 r4 r5 r6 r7 r8 r9 rf0 rf1 rf2 rf3 rf4 rf5 rf6 rf7 rf8 rf9
            have hz9 := put10 hyi (.int .i64 7) (.int .i64 0) (.string ⟨#[]⟩) (.string ⟨#[]⟩) (.slice none 0 0) (.int .i64 0) (.slice none 0 0) (.int .i64 0) (.int .i64 0) (.int .i64 0)
            have hg9 := grown10 wr w.heap.size (.int .i64 7) (.int .i64 0) (.string ⟨#[]⟩) (.string ⟨#[]⟩) (.slice none 0 0) (.int .i64 0) (.slice none 0 0) (.int .i64 0) (.int .i64 0) (.int .i64 0)
            generalize ((((((((((wr.setCell ⟨w.heap.size, 0, none⟩ (.int .i64 7)).setCell ⟨w.heap.size, 1, none⟩ (.int .i64 0)).setCell ⟨w.heap.size, 2, none⟩ (.string ⟨#[]⟩)).setCell ⟨w.heap.size, 3, none⟩ (.string ⟨#[]⟩)).setCell ⟨w.heap.size, 4, none⟩ (.slice none 0 0)).setCell ⟨w.heap.size, 5, none⟩ (.int .i64 0)).setCell ⟨w.heap.size, 6, none⟩ (.slice none 0 0)).setCell ⟨w.heap.size, 7, none⟩ (.int .i64 0)).setCell ⟨w.heap.size, 8, none⟩ (.int .i64 0)).setCell ⟨w.heap.size, 9, none⟩ (.int .i64 0)) = w9 at hz9 hg9 ⊢
            obtain ⟨s0, s1, s2, s3, s4, s5, s6, s7, s8, s9⟩ := cells10 hz9
            have hb9 := pw_below_grown hbi _ hbi.size hg9 (fun k e => by cases e; exact Nat.le_refl _)
            refine bodyPost_ret (v := .tuple #[.agg #[.int .i64 7, .int .i64 0, .string ⟨#[]⟩, .string ⟨#[]⟩, .slice none 0 0, .int .i64 0, .slice none 0 0, .int .i64 0, .int .i64 0, .int .i64 0], .bool true]) (by simp [results, Tryd.results83, go_sem, s0, s1, s2, s3, s4, s5, s6, s7, s8, s9]) rfl ?_
            exact ⟨.slice none 0 0, .slice none 0 0, by rw [HRe.out]; rfl, by rw [HRe.out]; exact Kd.R_nil _ _ _ _ _, by rw [HRe.out]; exact Kd.R_nil _ _ _ _ _, hb9⟩
          · have t2 : ((m2 : Int) == 0) = false := beq_eq_false_iff_ne.2 (by omega)
            have hRe : R = (zeroOp 7, false) := by rw [show R = (zeroOp 7, decide (t.length = 0)) from Hrf.out, decide_eq_false (by rw [Hm2.out]; exact h0)]
            have HRe := Lib.hid hRe
            clear hRe h0
            go_wp2
            clear p0 p1 p2 p3 p4 p5 p6 p7 p8 p9 pf0 pf1 pf2 pf3 pf4 pf5 pf6 pf7 pf8 pf9
            clear r0 r1 r2 r3 r4 r5 r6 r7 r8 r9 rf0 rf1 rf2 rf3 rf4 rf5 rf6 rf7 rf8 rf9
            have hz9 := put10 hyi (.int .i64 7) (.int .i64 0) (.string ⟨#[]⟩) (.string ⟨#[]⟩) (.slice none 0 0) (.int .i64 0) (.slice none 0 0) (.int .i64 0) (.int .i64 0) (.int .i64 0)
            have hg9 := grown10 wr w.heap.size (.int .i64 7) (.int .i64 0) (.string ⟨#[]⟩) (.string ⟨#[]⟩) (.slice none 0 0) (.int .i64 0) (.slice none 0 0) (.int .i64 0) (.int .i64 0) (.int .i64 0)
            generalize ((((((((((wr.setCell ⟨w.heap.size, 0, none⟩ (.int .i64 7)).setCell ⟨w.heap.size, 1, none⟩ (.int .i64 0)).setCell ⟨w.heap.size, 2, none⟩ (.string ⟨#[]⟩)).setCell ⟨w.heap.size, 3, none⟩ (.string ⟨#[]⟩)).setCell ⟨w.heap.size, 4, none⟩ (.slice none 0 0)).setCell ⟨w.heap.size, 5, none⟩ (.int .i64 0)).setCell ⟨w.heap.size, 6, none⟩ (.slice none 0 0)).setCell ⟨w.heap.size, 7, none⟩ (.int .i64 0)).setCell ⟨w.heap.size, 8, none⟩ (.int .i64 0)).setCell ⟨w.heap.size, 9, none⟩ (.int .i64 0)) = w9 at hz9 hg9 ⊢
            obtain ⟨s0, s1, s2, s3, s4, s5, s6, s7, s8, s9⟩ := cells10 hz9
            have hb9 := pw_below_grown hbi _ hbi.size hg9 (fun k e => by cases e; exact Nat.le_refl _)
            refine bodyPost_ret (v := .tuple #[.agg #[.int .i64 7, .int .i64 0, .string ⟨#[]⟩, .string ⟨#[]⟩, .slice none 0 0, .int .i64 0, .slice none 0 0, .int .i64 0, .int .i64 0, .int .i64 0], .bool false]) (by simp [results, Tryd.results83, go_sem, s0, s1, s2, s3, s4, s5, s6, s7, s8, s9]) rfl ?_
            exact ⟨.slice none 0 0, .slice none 0 0, by rw [HRe.out]; rfl, by rw [HRe.out]; exact Kd.R_nil _ _ _ _ _, by rw [HRe.out]; exact Kd.R_nil _ _ _ _ _, hb9⟩
        · have hz4 : wr.heap[w.heap.size + 1]? = some (.cells #[.int .i64 8, .int .i64 0, .string ⟨#[]⟩, .string ⟨#[]⟩, .slice none 0 0, .int .i64 0, .slice none 0 0, .int .i64 0, .int .i64 0, .int .i64 0] 61) := hzk
          obtain ⟨p0, p1, p2, p3, p4, p5, p6, p7, p8, p9⟩ := cells10 hz4
          obtain ⟨pf0, pf1, pf2, pf3, pf4, pf5, pf6, pf7, pf8, pf9⟩ := frozen10 hz4
          obtain ⟨r0, r1, r2, r3, r4, r5, r6, r7, r8, r9⟩ := cells10 hyi
          obtain ⟨rf0, rf1, rf2, rf3, rf4, rf5, rf6, rf7, rf8, rf9⟩ := frozen10 hyi
          by_cases h1 : m2 = 1
          · obtain ⟨y, u, rfl⟩ : ∃ y u, t = y :: u := by
              cases t with
              | nil => exact absurd Hm2.out (by rw [h1]; simp)
              | cons y u => exact ⟨y, u, rfl⟩
            subst h1
            obtain ⟨adt, et, c1⟩ := Kd.at_string (Kd.C_below hCt hbi) 0 (by decide) (by omega)
            subst et
            have c10 : wr.cell? adt = some (.string y) := by
              have h := c1
              rw [show adt.add (0 : Int).toNat = adt by simp [Addr.add]] at h
              exact h
            clear c1
            have hRe : R = ({ zeroOp 8 with key := y }, true) := by rw [show R = (if (y :: u).length = 1 then ({ zeroOp 8 with key := y }, true) else (zeroOp 0, false)) from Hrf.out, if_pos Hm2.out]
            have HRe := Lib.hid hRe
            clear hRe
            go_upto_region 21 with (fail)
            clear p0 p1 p2 p3 p4 p5 p6 p7 p8 p9 pf0 pf1 pf2 pf3 pf4 pf5 pf6 pf7 pf8 pf9
            clear r0 r1 r2 r3 r4 r5 r6 r7 r8 r9 rf0 rf1 rf2 rf3 rf4 rf5 rf6 rf7 rf8 rf9
            have hz6 : (wr.setCell ⟨w.heap.size + 1, 2, none⟩ (.string y)).heap[w.heap.size + 1]? = some (.cells #[.int .i64 8, .int .i64 0, .string y, .string ⟨#[]⟩, .slice none 0 0, .int .i64 0, .slice none 0 0, .int .i64 0, .int .i64 0, .int .i64 0] 61) := set_heap hzk 2 (.string y)
            have hy6 := blk_far (p := ⟨w.heap.size + 1, 2, none⟩) hyi (by simp) (.string y)
            have hb6 := pw_below_grown hbi _ hbi.size (set_grown wr (w.heap.size + 1) 2 (.string y)) (fun q e => by cases e; omega)
            generalize wr.setCell ⟨w.heap.size + 1, 2, none⟩ (.string y) = w6 at hz6 hy6 hb6 ⊢
            obtain ⟨p0, p1, p2, p3, p4, p5, p6, p7, p8, p9⟩ := cells10 hz6
            obtain ⟨pf0, pf1, pf2, pf3, pf4, pf5, pf6, pf7, pf8, pf9⟩ := frozen10 hz6
            obtain ⟨r0, r1, r2, r3, r4, r5, r6, r7, r8, r9⟩ := cells10 hy6
            obtain ⟨rf0, rf1, rf2, rf3, rf4, rf5, rf6, rf7, rf8, rf9⟩ := frozen10 hy6
            go_wp2
            clear p0 p1 p2 p3 p4 p5 p6 p7 p8 p9 pf0 pf1 pf2 pf3 pf4 pf5 pf6 pf7 pf8 pf9
            clear r0 r1 r2 r3 r4 r5 r6 r7 r8 r9 rf0 rf1 rf2 rf3 rf4 rf5 rf6 rf7 rf8 rf9
            have hz9 := put10 hy6 (.int .i64 8) (.int .i64 0) (.string y) (.string ⟨#[]⟩) (.slice none 0 0) (.int .i64 0) (.slice none 0 0) (.int .i64 0) (.int .i64 0) (.int .i64 0)
            have hg9 := grown10 w6 w.heap.size (.int .i64 8) (.int .i64 0) (.string y) (.string ⟨#[]⟩) (.slice none 0 0) (.int .i64 0) (.slice none 0 0) (.int .i64 0) (.int .i64 0) (.int .i64 0)
            generalize ((((((((((w6.setCell ⟨w.heap.size, 0, none⟩ (.int .i64 8)).setCell ⟨w.heap.size, 1, none⟩ (.int .i64 0)).setCell ⟨w.heap.size, 2, none⟩ (.string y)).setCell ⟨w.heap.size, 3, none⟩ (.string ⟨#[]⟩)).setCell ⟨w.heap.size, 4, none⟩ (.slice none 0 0)).setCell ⟨w.heap.size, 5, none⟩ (.int .i64 0)).setCell ⟨w.heap.size, 6, none⟩ (.slice none 0 0)).setCell ⟨w.heap.size, 7, none⟩ (.int .i64 0)).setCell ⟨w.heap.size, 8, none⟩ (.int .i64 0)).setCell ⟨w.heap.size, 9, none⟩ (.int .i64 0)) = w9 at hz9 hg9 ⊢
            obtain ⟨s0, s1, s2, s3, s4, s5, s6, s7, s8, s9⟩ := cells10 hz9
            have hb9 := pw_below_grown hb6 _ hb6.size hg9 (fun k e => by cases e; exact Nat.le_refl _)
            refine bodyPost_ret (v := .tuple #[.agg #[.int .i64 8, .int .i64 0, .string y, .string ⟨#[]⟩, .slice none 0 0, .int .i64 0, .slice none 0 0, .int .i64 0, .int .i64 0, .int .i64 0], .bool true]) (by simp [results, Tryd.results83, go_sem, s0, s1, s2, s3, s4, s5, s6, s7, s8, s9]) rfl ?_
            exact ⟨.slice none 0 0, .slice none 0 0, by rw [HRe.out]; rfl, by rw [HRe.out]; exact Kd.R_nil _ _ _ _ _, by rw [HRe.out]; exact Kd.R_nil _ _ _ _ _, hb9⟩
          · have t2 : ((m2 : Int) != 1) = true := bne_iff_ne.2 (by omega)
            have hRe : R = (zeroOp 0, false) := by rw [show R = (if t.length = 1 then ({ zeroOp 8 with key := t.headD ⟨#[]⟩ }, true) else (zeroOp 0, false)) from Hrf.out, if_neg (by rw [Hm2.out]; exact h1)]
            have HRe := Lib.hid hRe
            clear hRe
            clear h1
            go_wp2
            clear p0 p1 p2 p3 p4 p5 p6 p7 p8 p9 pf0 pf1 pf2 pf3 pf4 pf5 pf6 pf7 pf8 pf9
            clear r0 r1 r2 r3 r4 r5 r6 r7 r8 r9 rf0 rf1 rf2 rf3 rf4 rf5 rf6 rf7 rf8 rf9
            have hz9 := put10 hyi (.int .i64 0) (.int .i64 0) (.string ⟨#[]⟩) (.string ⟨#[]⟩) (.slice none 0 0) (.int .i64 0) (.slice none 0 0) (.int .i64 0) (.int .i64 0) (.int .i64 0)
            have hg9 := grown10 wr w.heap.size (.int .i64 0) (.int .i64 0) (.string ⟨#[]⟩) (.string ⟨#[]⟩) (.slice none 0 0) (.int .i64 0) (.slice none 0 0) (.int .i64 0) (.int .i64 0) (.int .i64 0)
            generalize ((((((((((wr.setCell ⟨w.heap.size, 0, none⟩ (.int .i64 0)).setCell ⟨w.heap.size, 1, none⟩ (.int .i64 0)).setCell ⟨w.heap.size, 2, none⟩ (.string ⟨#[]⟩)).setCell ⟨w.heap.size, 3, none⟩ (.string ⟨#[]⟩)).setCell ⟨w.heap.size, 4, none⟩ (.slice none 0 0)).setCell ⟨w.heap.size, 5, none⟩ (.int .i64 0)).setCell ⟨w.heap.size, 6, none⟩ (.slice none 0 0)).setCell ⟨w.heap.size, 7, none⟩ (.int .i64 0)).setCell ⟨w.heap.size, 8, none⟩ (.int .i64 0)).setCell ⟨w.heap.size, 9, none⟩ (.int .i64 0)) = w9 at hz9 hg9 ⊢
            obtain ⟨s0, s1, s2, s3, s4, s5, s6, s7, s8, s9⟩ := cells10 hz9
            have hb9 := pw_below_grown hbi _ hbi.size hg9 (fun k e => by cases e; exact Nat.le_refl _)
            refine bodyPost_ret (v := .tuple #[.agg #[.int .i64 0, .int .i64 0, .string ⟨#[]⟩, .string ⟨#[]⟩, .slice none 0 0, .int .i64 0, .slice none 0 0, .int .i64 0, .int .i64 0, .int .i64 0], .bool false]) (by simp [results, Tryd.results83, go_sem, s0, s1, s2, s3, s4, s5, s6, s7, s8, s9]) rfl ?_
            exact ⟨.slice none 0 0, .slice none 0 0, by rw [HRe.out]; rfl, by rw [HRe.out]; exact Kd.R_nil _ _ _ _ _, by rw [HRe.out]; exact Kd.R_nil _ _ _ _ _, hb9⟩
        · have hz4 : wr.heap[w.heap.size + 1]? = some (.cells #[.int .i64 9, .int .i64 0, .string ⟨#[]⟩, .string ⟨#[]⟩, .slice none 0 0, .int .i64 0, .slice none 0 0, .int .i64 0, .int .i64 0, .int .i64 0] 61) := hzk
          obtain ⟨p0, p1, p2, p3, p4, p5, p6, p7, p8, p9⟩ := cells10 hz4
          obtain ⟨pf0, pf1, pf2, pf3, pf4, pf5, pf6, pf7, pf8, pf9⟩ := frozen10 hz4
          obtain ⟨r0, r1, r2, r3, r4, r5, r6, r7, r8, r9⟩ := cells10 hyi
          obtain ⟨rf0, rf1, rf2, rf3, rf4, rf5, rf6, rf7, rf8, rf9⟩ := frozen10 hyi
          by_cases h1 : m2 = 1
          · obtain ⟨y, u, rfl⟩ : ∃ y u, t = y :: u := by
              cases t with
              | nil => exact absurd Hm2.out (by rw [h1]; simp)
              | cons y u => exact ⟨y, u, rfl⟩
            subst h1
            obtain ⟨adt, et, c1⟩ := Kd.at_string (Kd.C_below hCt hbi) 0 (by decide) (by omega)
            subst et
            have c10 : wr.cell? adt = some (.string y) := by
              have h := c1
              rw [show adt.add (0 : Int).toNat = adt by simp [Addr.add]] at h
              exact h
            clear c1
            have hRe : R = ({ zeroOp 9 with key := y }, true) := by rw [show R = (if (y :: u).length = 1 then ({ zeroOp 9 with key := y }, true) else (zeroOp 0, false)) from Hrf.out, if_pos Hm2.out]
            have HRe := Lib.hid hRe
            clear hRe
            go_upto_region 21 with (fail)
            clear p0 p1 p2 p3 p4 p5 p6 p7 p8 p9 pf0 pf1 pf2 pf3 pf4 pf5 pf6 pf7 pf8 pf9
            clear r0 r1 r2 r3 r4 r5 r6 r7 r8 r9 rf0 rf1 rf2 rf3 rf4 rf5 rf6 rf7 rf8 rf9
            have hz6 : (wr.setCell ⟨w.heap.size + 1, 2, none⟩ (.string y)).heap[w.heap.size + 1]? = some (.cells #[.int .i64 9, .int .i64 0, .string y, .string ⟨#[]⟩, .slice none 0 0, .int .i64 0, .slice none 0 0, .int .i64 0, .int .i64 0, .int .i64 0] 61) := set_heap hzk 2 (.string y)
            have hy6 := blk_far (p := ⟨w.heap.size + 1, 2, none⟩) hyi (by simp) (.string y)
            have hb6 := pw_below_grown hbi _ hbi.size (set_grown wr (w.heap.size + 1) 2 (.string y)) (fun q e => by cases e; omega)
            generalize wr.setCell ⟨w.heap.size + 1, 2, none⟩ (.string y) = w6 at hz6 hy6 hb6 ⊢
            obtain ⟨p0, p1, p2, p3, p4, p5, p6, p7, p8, p9⟩ := cells10 hz6
            obtain ⟨pf0, pf1, pf2, pf3, pf4, pf5, pf6, pf7, pf8, pf9⟩ := frozen10 hz6
            obtain ⟨r0, r1, r2, r3, r4, r5, r6, r7, r8, r9⟩ := cells10 hy6
            obtain ⟨rf0, rf1, rf2, rf3, rf4, rf5, rf6, rf7, rf8, rf9⟩ := frozen10 hy6
            go_wp2
            clear p0 p1 p2 p3 p4 p5 p6 p7 p8 p9 pf0 pf1 pf2 pf3 pf4 pf5 pf6 pf7 pf8 pf9
            clear r0 r1 r2 r3 r4 r5 r6 r7 r8 r9 rf0 rf1 rf2 rf3 rf4 rf5 rf6 rf7 rf8 rf9
            have hz9 := put10 hy6 (.int .i64 9) (.int .i64 0) (.string y) (.string ⟨#[]⟩) (.slice none 0 0) (.int .i64 0) (.slice none 0 0) (.int .i64 0) (.int .i64 0) (.int .i64 0)
            have hg9 := grown10 w6 w.heap.size (.int .i64 9) (.int .i64 0) (.string y) (.string ⟨#[]⟩) (.slice none 0 0) (.int .i64 0) (.slice none 0 0) (.int .i64 0) (.int .i64 0) (.int .i64 0)
            generalize ((((((((((w6.setCell ⟨w.heap.size, 0, none⟩ (.int .i64 9)).setCell ⟨w.heap.size, 1, none⟩ (.int .i64 0)).setCell ⟨w.heap.size, 2, none⟩ (.string y)).setCell ⟨w.heap.size, 3, none⟩ (.string ⟨#[]⟩)).setCell ⟨w.heap.size, 4, none⟩ (.slice none 0 0)).setCell ⟨w.heap.size, 5, none⟩ (.int .i64 0)).setCell ⟨w.heap.size, 6, none⟩ (.slice none 0 0)).setCell ⟨w.heap.size, 7, none⟩ (.int .i64 0)).setCell ⟨w.heap.size, 8, none⟩ (.int .i64 0)).setCell ⟨w.heap.size, 9, none⟩ (.int .i64 0)) = w9 at hz9 hg9 ⊢
            obtain ⟨s0, s1, s2, s3, s4, s5, s6, s7, s8, s9⟩ := cells10 hz9
            have hb9 := pw_below_grown hb6 _ hb6.size hg9 (fun k e => by cases e; exact Nat.le_refl _)
            refine bodyPost_ret (v := .tuple #[.agg #[.int .i64 9, .int .i64 0, .string y, .string ⟨#[]⟩, .slice none 0 0, .int .i64 0, .slice none 0 0, .int .i64 0, .int .i64 0, .int .i64 0], .bool true]) (by simp [results, Tryd.results83, go_sem, s0, s1, s2, s3, s4, s5, s6, s7, s8, s9]) rfl ?_
            exact ⟨.slice none 0 0, .slice none 0 0, by rw [HRe.out]; rfl, by rw [HRe.out]; exact Kd.R_nil _ _ _ _ _, by rw [HRe.out]; exact Kd.R_nil _ _ _ _ _, hb9⟩
          · have t2 : ((m2 : Int) != 1) = true := bne_iff_ne.2 (by omega)
            have hRe : R = (zeroOp 0, false) := by rw [show R = (if t.length = 1 then ({ zeroOp 9 with key := t.headD ⟨#[]⟩ }, true) else (zeroOp 0, false)) from Hrf.out, if_neg (by rw [Hm2.out]; exact h1)]
            have HRe := Lib.hid hRe
            clear hRe
            clear h1
            go_wp2
            clear p0 p1 p2 p3 p4 p5 p6 p7 p8 p9 pf0 pf1 pf2 pf3 pf4 pf5 pf6 pf7 pf8 pf9
            clear r0 r1 r2 r3 r4 r5 r6 r7 r8 r9 rf0 rf1 rf2 rf3 rf4 rf5 rf6 rf7 rf8 rf9
            have hz9 := put10 hyi (.int .i64 0) (.int .i64 0) (.string ⟨#[]⟩) (.string ⟨#[]⟩) (.slice none 0 0) (.int .i64 0) (.slice none 0 0) (.int .i64 0) (.int .i64 0) (.int .i64 0)
            have hg9 := grown10 wr w.heap.size (.int .i64 0) (.int .i64 0) (.string ⟨#[]⟩) (.string ⟨#[]⟩) (.slice none 0 0) (.int .i64 0) (.slice none 0 0) (.int .i64 0) (.int .i64 0) (.int .i64 0)
            generalize ((((((((((wr.setCell ⟨w.heap.size, 0, none⟩ (.int .i64 0)).setCell ⟨w.heap.size, 1, none⟩ (.int .i64 0)).setCell ⟨w.heap.size, 2, none⟩ (.string ⟨#[]⟩)).setCell ⟨w.heap.size, 3, none⟩ (.string ⟨#[]⟩)).setCell ⟨w.heap.size, 4, none⟩ (.slice none 0 0)).setCell ⟨w.heap.size, 5, none⟩ (.int .i64 0)).setCell ⟨w.heap.size, 6, none⟩ (.slice none 0 0)).setCell ⟨w.heap.size, 7, none⟩ (.int .i64 0)).setCell ⟨w.heap.size, 8, none⟩ (.int .i64 0)).setCell ⟨w.heap.size, 9, none⟩ (.int .i64 0)) = w9 at hz9 hg9 ⊢
            obtain ⟨s0, s1, s2, s3, s4, s5, s6, s7, s8, s9⟩ := cells10 hz9
            have hb9 := pw_below_grown hbi _ hbi.size hg9 (fun k e => by cases e; exact Nat.le_refl _)
            refine bodyPost_ret (v := .tuple #[.agg #[.int .i64 0, .int .i64 0, .string ⟨#[]⟩, .string ⟨#[]⟩, .slice none 0 0, .int .i64 0, .slice none 0 0, .int .i64 0, .int .i64 0, .int .i64 0], .bool false]) (by simp [results, Tryd.results83, go_sem, s0, s1, s2, s3, s4, s5, s6, s7, s8, s9]) rfl ?_
            exact ⟨.slice none 0 0, .slice none 0 0, by rw [HRe.out]; rfl, by rw [HRe.out]; exact Kd.R_nil _ _ _ _ _, by rw [HRe.out]; exact Kd.R_nil _ _ _ _ _, hb9⟩
        · have hz4 : wr.heap[w.heap.size + 1]? = some (.cells #[.int .i64 10, .int .i64 0, .string ⟨#[]⟩, .string ⟨#[]⟩, .slice none 0 0, .int .i64 0, .slice none 0 0, .int .i64 0, .int .i64 0, .int .i64 0] 61) := hzk
          obtain ⟨p0, p1, p2, p3, p4, p5, p6, p7, p8, p9⟩ := cells10 hz4
          obtain ⟨pf0, pf1, pf2, pf3, pf4, pf5, pf6, pf7, pf8, pf9⟩ := frozen10 hz4
          obtain ⟨r0, r1, r2, r3, r4, r5, r6, r7, r8, r9⟩ := cells10 hyi
          obtain ⟨rf0, rf1, rf2, rf3, rf4, rf5, rf6, rf7, rf8, rf9⟩ := frozen10 hyi
          by_cases h0 : m2 = 0
          · subst h0
            have hRe : R = (zeroOp 10, true) := by rw [show R = (zeroOp 10, decide (t.length = 0)) from Hrf.out, decide_eq_true Hm2.out]
            have HRe := Lib.hid hRe
            clear hRe
            go_wp2
            clear p0 p1 p2 p3 p4 p5 p6 p7 p8 p9 pf0 pf1 pf2 pf3 pf4 pf5 pf6 pf7 pf8 pf9
            clear r0 r1 r2 r3 r4 r5 r6 r7 r8 r9 rf0 rf1 rf2 rf3 rf4 rf5 rf6 rf7 rf8 rf9
            have hz9 := put10 hyi (.int .i64 10) (.int .i64 0) (.string ⟨#[]⟩) (.string ⟨#[]⟩) (.slice none 0 0) (.int .i64 0) (.slice none 0 0) (.int .i64 0) (.int .i64 0) (.int .i64 0)
            have hg9 := grown10 wr w.heap.size (.int .i64 10) (.int .i64 0) (.string ⟨#[]⟩) (.string ⟨#[]⟩) (.slice none 0 0) (.int .i64 0) (.slice none 0 0) (.int .i64 0) (.int .i64 0) (.int .i64 0)
            generalize ((((((((((wr.setCell ⟨w.heap.size, 0, none⟩ (.int .i64 10)).setCell ⟨w.heap.size, 1, none⟩ (.int .i64 0)).setCell ⟨w.heap.size, 2, none⟩ (.string ⟨#[]⟩)).setCell ⟨w.heap.size, 3, none⟩ (.string ⟨#[]⟩)).setCell ⟨w.heap.size, 4, none⟩ (.slice none 0 0)).setCell ⟨w.heap.size, 5, none⟩ (.int .i64 0)).setCell ⟨w.heap.size, 6, none⟩ (.slice none 0 0)).setCell ⟨w.heap.size, 7, none⟩ (.int .i64 0)).setCell ⟨w.heap.size, 8, none⟩ (.int .i64 0)).setCell ⟨w.heap.size, 9, none⟩ (.int .i64 0)) = w9 at hz9 hg9 ⊢
            obtain ⟨s0, s1, s2, s3, s4, s5, s6, s7, s8, s9⟩ := cells10 hz9
            have hb9 := pw_below_grown hbi _ hbi.size hg9 (fun k e => by cases e; exact Nat.le_refl _)
            refine bodyPost_ret (v := .tuple #[.agg #[.int .i64 10, .int .i64 0, .string ⟨#[]⟩, .string ⟨#[]⟩, .slice none 0 0, .int .i64 0, .slice none 0 0, .int .i64 0, .int .i64 0, .int .i64 0], .bool true]) (by simp [results, Tryd.results83, go_sem, s0, s1, s2, s3, s4, s5, s6, s7, s8, s9]) rfl ?_
            exact ⟨.slice none 0 0, .slice none 0 0, by rw [HRe.out]; rfl, by rw [HRe.out]; exact Kd.R_nil _ _ _ _ _, by rw [HRe.out]; exact Kd.R_nil _ _ _ _ _, hb9⟩
          · have t2 : ((m2 : Int) == 0) = false := beq_eq_false_iff_ne.2 (by omega)
            have hRe : R = (zeroOp 10, false) := by rw [show R = (zeroOp 10, decide (t.length = 0)) from Hrf.out, decide_eq_false (by rw [Hm2.out]; exact h0)]
            have HRe := Lib.hid hRe
            clear hRe h0
            go_wp2
            clear p0 p1 p2 p3 p4 p5 p6 p7 p8 p9 pf0 pf1 pf2 pf3 pf4 pf5 pf6 pf7 pf8 pf9
            clear r0 r1 r2 r3 r4 r5 r6 r7 r8 r9 rf0 rf1 rf2 rf3 rf4 rf5 rf6 rf7 rf8 rf9
            have hz9 := put10 hyi (.int .i64 10) (.int .i64 0) (.string ⟨#[]⟩) (.string ⟨#[]⟩) (.slice none 0 0) (.int .i64 0) (.slice none 0 0) (.int .i64 0) (.int .i64 0) (.int .i64 0)
            have hg9 := grown10 wr w.heap.size (.int .i64 10) (.int .i64 0) (.string ⟨#[]⟩) (.string ⟨#[]⟩) (.slice none 0 0) (.int .i64 0) (.slice none 0 0) (.int .i64 0) (.int .i64 0) (.int .i64 0)
            generalize ((((((((((wr.setCell ⟨w.heap.size, 0, none⟩ (.int .i64 10)).setCell ⟨w.heap.size, 1, none⟩ (.int .i64 0)).setCell ⟨w.heap.size, 2, none⟩ (.string ⟨#[]⟩)).setCell ⟨w.heap.size, 3, none⟩ (.string ⟨#[]⟩)).setCell ⟨w.heap.size, 4, none⟩ (.slice none 0 0)).setCell ⟨w.heap.size, 5, none⟩ (.int .i64 0)).setCell ⟨w.heap.size, 6, none⟩ (.slice none 0 0)).setCell ⟨w.heap.size, 7, none⟩ (.int .i64 0)).setCell ⟨w.heap.size, 8, none⟩ (.int .i64 0)).setCell ⟨w.heap.size, 9, none⟩ (.int .i64 0)) = w9 at hz9 hg9 ⊢
            obtain ⟨s0, s1, s2, s3, s4, s5, s6, s7, s8, s9⟩ := cells10 hz9
            have hb9 := pw_below_grown hbi _ hbi.size hg9 (fun k e => by cases e; exact Nat.le_refl _)
            refine bodyPost_ret (v := .tuple #[.agg #[.int .i64 10, .int .i64 0, .string ⟨#[]⟩, .string ⟨#[]⟩, .slice none 0 0, .int .i64 0, .slice none 0 0, .int .i64 0, .int .i64 0, .int .i64 0], .bool false]) (by simp [results, Tryd.results83, go_sem, s0, s1, s2, s3, s4, s5, s6, s7, s8, s9]) rfl ?_
            exact ⟨.slice none 0 0, .slice none 0 0, by rw [HRe.out]; rfl, by rw [HRe.out]; exact Kd.R_nil _ _ _ _ _, by rw [HRe.out]; exact Kd.R_nil _ _ _ _ _, hb9⟩
        · have hz4 : wr.heap[w.heap.size + 1]? = some (.cells #[.int .i64 11, .int .i64 0, .string ⟨#[]⟩, .string ⟨#[]⟩, .slice none 0 0, .int .i64 0, .slice none 0 0, .int .i64 0, .int .i64 0, .int .i64 0] 61) := hzk
          obtain ⟨p0, p1, p2, p3, p4, p5, p6, p7, p8, p9⟩ := cells10 hz4
          obtain ⟨pf0, pf1, pf2, pf3, pf4, pf5, pf6, pf7, pf8, pf9⟩ := frozen10 hz4
          obtain ⟨r0, r1, r2, r3, r4, r5, r6, r7, r8, r9⟩ := cells10 hyi
          obtain ⟨rf0, rf1, rf2, rf3, rf4, rf5, rf6, rf7, rf8, rf9⟩ := frozen10 hyi
          obtain ⟨⟨ms, ok⟩, hnt⟩ : ∃ r, numbersT t = r := ⟨_, rfl⟩
          have hnum := hnums wr hbi
          rw [hnt] at hnum
          have hrf := Hrf.out
          rw [hnt] at hrf
          replace Hrf := Lib.hid hrf
          clear hrf hnt hnums
          go_wp2_with fail
          refine hnum.mono ?_
          rintro en w5 ⟨vm, rfl, hRm, hb5⟩
          obtain ⟨Am, cm, em⟩ := Kd.R_slice hRm
          subst em
          have hlz := (Array.getElem?_eq_some_iff.1 hz4).1
          have hly := (Array.getElem?_eq_some_iff.1 hyi).1
          have hz5 := (hb5.block _ hlz).trans hz4
          have hy5 := (hb5.block _ hly).trans hyi
          have hbx := below_then hbi hbi.size hb5
          clear p0 p1 p2 p3 p4 p5 p6 p7 p8 p9 pf0 pf1 pf2 pf3 pf4 pf5 pf6 pf7 pf8 pf9
          clear r0 r1 r2 r3 r4 r5 r6 r7 r8 r9 rf0 rf1 rf2 rf3 rf4 rf5 rf6 rf7 rf8 rf9
          obtain ⟨p0, p1, p2, p3, p4, p5, p6, p7, p8, p9⟩ := cells10 hz5
          obtain ⟨pf0, pf1, pf2, pf3, pf4, pf5, pf6, pf7, pf8, pf9⟩ := frozen10 hz5
          obtain ⟨r0, r1, r2, r3, r4, r5, r6, r7, r8, r9⟩ := cells10 hy5
          obtain ⟨rf0, rf1, rf2, rf3, rf4, rf5, rf6, rf7, rf8, rf9⟩ := frozen10 hy5
          have hCm := (Kd.R_reads' hRm).2.2
          obtain ⟨m3, hm3⟩ : ∃ m3, ms.length = m3 := ⟨_, rfl⟩
          rw [hm3] at hCm ⊢
          have Hm3 := Lib.hid hm3
          clear hm3
          have hrs : R = (if ok = true ∧ ms.length = 1 then ({ zeroOp 11 with n := ms.getD 0 0 }, true) else (zeroOp 0, false)) := Hrf.out
          have Hrs := Lib.hid hrs
          clear hrs
          cases ok
          · have hRe : R = (zeroOp 0, false) := by rw [Hrs.out, if_neg (by simp)]
            have HRe := Lib.hid hRe
            clear hRe
            go_wp2
            clear p0 p1 p2 p3 p4 p5 p6 p7 p8 p9 pf0 pf1 pf2 pf3 pf4 pf5 pf6 pf7 pf8 pf9
            clear r0 r1 r2 r3 r4 r5 r6 r7 r8 r9 rf0 rf1 rf2 rf3 rf4 rf5 rf6 rf7 rf8 rf9
            have hz9 := put10 hy5 (.int .i64 0) (.int .i64 0) (.string ⟨#[]⟩) (.string ⟨#[]⟩) (.slice none 0 0) (.int .i64 0) (.slice none 0 0) (.int .i64 0) (.int .i64 0) (.int .i64 0)
            have hg9 := grown10 w5 w.heap.size (.int .i64 0) (.int .i64 0) (.string ⟨#[]⟩) (.string ⟨#[]⟩) (.slice none 0 0) (.int .i64 0) (.slice none 0 0) (.int .i64 0) (.int .i64 0) (.int .i64 0)
            generalize ((((((((((w5.setCell ⟨w.heap.size, 0, none⟩ (.int .i64 0)).setCell ⟨w.heap.size, 1, none⟩ (.int .i64 0)).setCell ⟨w.heap.size, 2, none⟩ (.string ⟨#[]⟩)).setCell ⟨w.heap.size, 3, none⟩ (.string ⟨#[]⟩)).setCell ⟨w.heap.size, 4, none⟩ (.slice none 0 0)).setCell ⟨w.heap.size, 5, none⟩ (.int .i64 0)).setCell ⟨w.heap.size, 6, none⟩ (.slice none 0 0)).setCell ⟨w.heap.size, 7, none⟩ (.int .i64 0)).setCell ⟨w.heap.size, 8, none⟩ (.int .i64 0)).setCell ⟨w.heap.size, 9, none⟩ (.int .i64 0)) = w9 at hz9 hg9 ⊢
            obtain ⟨s0, s1, s2, s3, s4, s5, s6, s7, s8, s9⟩ := cells10 hz9
            have hb9 := pw_below_grown hbx _ hbx.size hg9 (fun k e => by cases e; exact Nat.le_refl _)
            refine bodyPost_ret (v := .tuple #[.agg #[.int .i64 0, .int .i64 0, .string ⟨#[]⟩, .string ⟨#[]⟩, .slice none 0 0, .int .i64 0, .slice none 0 0, .int .i64 0, .int .i64 0, .int .i64 0], .bool false]) (by simp [results, Tryd.results83, go_sem, s0, s1, s2, s3, s4, s5, s6, s7, s8, s9]) rfl ?_
            exact ⟨.slice none 0 0, .slice none 0 0, by rw [HRe.out]; rfl, by rw [HRe.out]; exact Kd.R_nil _ _ _ _ _, by rw [HRe.out]; exact Kd.R_nil _ _ _ _ _, hb9⟩
          · by_cases h3 : m3 = 1
            · have hRe : R = ({ zeroOp 11 with n := ms.getD 0 0 }, true) := by rw [Hrs.out, if_pos ⟨rfl, by rw [Hm3.out]; exact h3⟩]
              have HRe := Lib.hid hRe
              clear hRe
              subst h3
              obtain ⟨adm, em, cm1⟩ := Kd.at_int hCm 0 (by decide) (by omega)
              subst em
              have cm0 : w5.cell? adm = some (.int .i64 (ms.getD 0 0)) := by
                have h := cm1
                rw [show adm.add (0 : Int).toNat = adm by simp [Addr.add]] at h
                exact h
              clear cm1
              obtain ⟨n0, hn0⟩ : ∃ n0, ms.getD 0 0 = n0 := ⟨_, rfl⟩
              rw [hn0] at cm0 HRe
              clear hn0
              go_upto_region 37 with (fail)
              clear p0 p1 p2 p3 p4 p5 p6 p7 p8 p9 pf0 pf1 pf2 pf3 pf4 pf5 pf6 pf7 pf8 pf9
              clear r0 r1 r2 r3 r4 r5 r6 r7 r8 r9 rf0 rf1 rf2 rf3 rf4 rf5 rf6 rf7 rf8 rf9
              have hz6 : (w5.setCell ⟨w.heap.size + 1, 5, none⟩ (.int .i64 n0)).heap[w.heap.size + 1]? = some (.cells #[.int .i64 11, .int .i64 0, .string ⟨#[]⟩, .string ⟨#[]⟩, .slice none 0 0, .int .i64 n0, .slice none 0 0, .int .i64 0, .int .i64 0, .int .i64 0] 61) := set_heap hz5 5 (.int .i64 n0)
              have hy6 := blk_far (p := ⟨w.heap.size + 1, 5, none⟩) hy5 (by simp) (.int .i64 n0)
              have hb6 := pw_below_grown hbx _ hbx.size (set_grown w5 (w.heap.size + 1) 5 (.int .i64 n0)) (fun q e => by cases e; omega)
              generalize w5.setCell ⟨w.heap.size + 1, 5, none⟩ (.int .i64 n0) = w6 at hz6 hy6 hb6 ⊢
              obtain ⟨p0, p1, p2, p3, p4, p5, p6, p7, p8, p9⟩ := cells10 hz6
              obtain ⟨pf0, pf1, pf2, pf3, pf4, pf5, pf6, pf7, pf8, pf9⟩ := frozen10 hz6
              obtain ⟨r0, r1, r2, r3, r4, r5, r6, r7, r8, r9⟩ := cells10 hy6
              obtain ⟨rf0, rf1, rf2, rf3, rf4, rf5, rf6, rf7, rf8, rf9⟩ := frozen10 hy6
              go_wp2
              clear p0 p1 p2 p3 p4 p5 p6 p7 p8 p9 pf0 pf1 pf2 pf3 pf4 pf5 pf6 pf7 pf8 pf9
              clear r0 r1 r2 r3 r4 r5 r6 r7 r8 r9 rf0 rf1 rf2 rf3 rf4 rf5 rf6 rf7 rf8 rf9
              have hz9 := put10 hy6 (.int .i64 11) (.int .i64 0) (.string ⟨#[]⟩) (.string ⟨#[]⟩) (.slice none 0 0) (.int .i64 n0) (.slice none 0 0) (.int .i64 0) (.int .i64 0) (.int .i64 0)
              have hg9 := grown10 w6 w.heap.size (.int .i64 11) (.int .i64 0) (.string ⟨#[]⟩) (.string ⟨#[]⟩) (.slice none 0 0) (.int .i64 n0) (.slice none 0 0) (.int .i64 0) (.int .i64 0) (.int .i64 0)
              generalize ((((((((((w6.setCell ⟨w.heap.size, 0, none⟩ (.int .i64 11)).setCell ⟨w.heap.size, 1, none⟩ (.int .i64 0)).setCell ⟨w.heap.size, 2, none⟩ (.string ⟨#[]⟩)).setCell ⟨w.heap.size, 3, none⟩ (.string ⟨#[]⟩)).setCell ⟨w.heap.size, 4, none⟩ (.slice none 0 0)).setCell ⟨w.heap.size, 5, none⟩ (.int .i64 n0)).setCell ⟨w.heap.size, 6, none⟩ (.slice none 0 0)).setCell ⟨w.heap.size, 7, none⟩ (.int .i64 0)).setCell ⟨w.heap.size, 8, none⟩ (.int .i64 0)).setCell ⟨w.heap.size, 9, none⟩ (.int .i64 0)) = w9 at hz9 hg9 ⊢
              obtain ⟨s0, s1, s2, s3, s4, s5, s6, s7, s8, s9⟩ := cells10 hz9
              have hb9 := pw_below_grown hb6 _ hb6.size hg9 (fun k e => by cases e; exact Nat.le_refl _)
              refine bodyPost_ret (v := .tuple #[.agg #[.int .i64 11, .int .i64 0, .string ⟨#[]⟩, .string ⟨#[]⟩, .slice none 0 0, .int .i64 n0, .slice none 0 0, .int .i64 0, .int .i64 0, .int .i64 0], .bool true]) (by simp [results, Tryd.results83, go_sem, s0, s1, s2, s3, s4, s5, s6, s7, s8, s9]) rfl ?_
              exact ⟨.slice none 0 0, .slice none 0 0, by rw [HRe.out]; rfl, by rw [HRe.out]; exact Kd.R_nil _ _ _ _ _, by rw [HRe.out]; exact Kd.R_nil _ _ _ _ _, hb9⟩
            · have t2 : ((m3 : Int) != 1) = true := bne_iff_ne.2 (by omega)
              have hRe : R = (zeroOp 0, false) := by rw [Hrs.out, if_neg (fun h => h3 (by rw [← Hm3.out]; exact h.2))]
              have HRe := Lib.hid hRe
              clear hRe
              clear h3
              go_wp2
              clear p0 p1 p2 p3 p4 p5 p6 p7 p8 p9 pf0 pf1 pf2 pf3 pf4 pf5 pf6 pf7 pf8 pf9
              clear r0 r1 r2 r3 r4 r5 r6 r7 r8 r9 rf0 rf1 rf2 rf3 rf4 rf5 rf6 rf7 rf8 rf9
              have hz9 := put10 hy5 (.int .i64 0) (.int .i64 0) (.string ⟨#[]⟩) (.string ⟨#[]⟩) (.slice none 0 0) (.int .i64 0) (.slice none 0 0) (.int .i64 0) (.int .i64 0) (.int .i64 0)
              have hg9 := grown10 w5 w.heap.size (.int .i64 0) (.int .i64 0) (.string ⟨#[]⟩) (.string ⟨#[]⟩) (.slice none 0 0) (.int .i64 0) (.slice none 0 0) (.int .i64 0) (.int .i64 0) (.int .i64 0)
              generalize ((((((((((w5.setCell ⟨w.heap.size, 0, none⟩ (.int .i64 0)).setCell ⟨w.heap.size, 1, none⟩ (.int .i64 0)).setCell ⟨w.heap.size, 2, none⟩ (.string ⟨#[]⟩)).setCell ⟨w.heap.size, 3, none⟩ (.string ⟨#[]⟩)).setCell ⟨w.heap.size, 4, none⟩ (.slice none 0 0)).setCell ⟨w.heap.size, 5, none⟩ (.int .i64 0)).setCell ⟨w.heap.size, 6, none⟩ (.slice none 0 0)).setCell ⟨w.heap.size, 7, none⟩ (.int .i64 0)).setCell ⟨w.heap.size, 8, none⟩ (.int .i64 0)).setCell ⟨w.heap.size, 9, none⟩ (.int .i64 0)) = w9 at hz9 hg9 ⊢
              obtain ⟨s0, s1, s2, s3, s4, s5, s6, s7, s8, s9⟩ := cells10 hz9
              have hb9 := pw_below_grown hbx _ hbx.size hg9 (fun k e => by cases e; exact Nat.le_refl _)
              refine bodyPost_ret (v := .tuple #[.agg #[.int .i64 0, .int .i64 0, .string ⟨#[]⟩, .string ⟨#[]⟩, .slice none 0 0, .int .i64 0, .slice none 0 0, .int .i64 0, .int .i64 0, .int .i64 0], .bool false]) (by simp [results, Tryd.results83, go_sem, s0, s1, s2, s3, s4, s5, s6, s7, s8, s9]) rfl ?_
              exact ⟨.slice none 0 0, .slice none 0 0, by rw [HRe.out]; rfl, by rw [HRe.out]; exact Kd.R_nil _ _ _ _ _, by rw [HRe.out]; exact Kd.R_nil _ _ _ _ _, hb9⟩
        · have hz4 : wr.heap[w.heap.size + 1]? = some (.cells #[.int .i64 12, .int .i64 0, .string ⟨#[]⟩, .string ⟨#[]⟩, .slice none 0 0, .int .i64 0, .slice none 0 0, .int .i64 0, .int .i64 0, .int .i64 0] 61) := hzk
          obtain ⟨p0, p1, p2, p3, p4, p5, p6, p7, p8, p9⟩ := cells10 hz4
          obtain ⟨pf0, pf1, pf2, pf3, pf4, pf5, pf6, pf7, pf8, pf9⟩ := frozen10 hz4
          obtain ⟨r0, r1, r2, r3, r4, r5, r6, r7, r8, r9⟩ := cells10 hyi
          obtain ⟨rf0, rf1, rf2, rf3, rf4, rf5, rf6, rf7, rf8, rf9⟩ := frozen10 hyi
          obtain ⟨⟨ms, ok⟩, hnt⟩ : ∃ r, numbersT t = r := ⟨_, rfl⟩
          have hnum := hnums wr hbi
          rw [hnt] at hnum
          have hrf := Hrf.out
          rw [hnt] at hrf
          replace Hrf := Lib.hid hrf
          clear hrf hnt hnums
          go_wp2_with fail
          refine hnum.mono ?_
          rintro en w5 ⟨vm, rfl, hRm, hb5⟩
          obtain ⟨Am, cm, em⟩ := Kd.R_slice hRm
          subst em
          have hlz := (Array.getElem?_eq_some_iff.1 hz4).1
          have hly := (Array.getElem?_eq_some_iff.1 hyi).1
          have hz5 := (hb5.block _ hlz).trans hz4
          have hy5 := (hb5.block _ hly).trans hyi
          have hbx := below_then hbi hbi.size hb5
          have hRe : R = ({ zeroOp 12 with mask := ms }, ok) := Hrf.out
          have HRe := Lib.hid hRe
          clear hRe
          clear p0 p1 p2 p3 p4 p5 p6 p7 p8 p9 pf0 pf1 pf2 pf3 pf4 pf5 pf6 pf7 pf8 pf9
          clear r0 r1 r2 r3 r4 r5 r6 r7 r8 r9 rf0 rf1 rf2 rf3 rf4 rf5 rf6 rf7 rf8 rf9
          obtain ⟨p0, p1, p2, p3, p4, p5, p6, p7, p8, p9⟩ := cells10 hz5
          obtain ⟨pf0, pf1, pf2, pf3, pf4, pf5, pf6, pf7, pf8, pf9⟩ := frozen10 hz5
          obtain ⟨r0, r1, r2, r3, r4, r5, r6, r7, r8, r9⟩ := cells10 hy5
          obtain ⟨rf0, rf1, rf2, rf3, rf4, rf5, rf6, rf7, rf8, rf9⟩ := frozen10 hy5
          go_upto_region 25 with (fail)
          clear p0 p1 p2 p3 p4 p5 p6 p7 p8 p9 pf0 pf1 pf2 pf3 pf4 pf5 pf6 pf7 pf8 pf9
          clear r0 r1 r2 r3 r4 r5 r6 r7 r8 r9 rf0 rf1 rf2 rf3 rf4 rf5 rf6 rf7 rf8 rf9
          have hz6 : (w5.setCell ⟨w.heap.size + 1, 6, none⟩ (.slice Am ms.length cm)).heap[w.heap.size + 1]? = some (.cells #[.int .i64 12, .int .i64 0, .string ⟨#[]⟩, .string ⟨#[]⟩, .slice none 0 0, .int .i64 0, .slice Am ms.length cm, .int .i64 0, .int .i64 0, .int .i64 0] 61) := set_heap hz5 6 (.slice Am ms.length cm)
          have hy6 := blk_far (p := ⟨w.heap.size + 1, 6, none⟩) hy5 (by simp) (.slice Am ms.length cm)
          have hb6 := pw_below_grown hbx _ hbx.size (set_grown w5 (w.heap.size + 1) 6 (.slice Am ms.length cm)) (fun q e => by cases e; omega)
          have hm6 := Kd.R_far (p := ⟨w.heap.size + 1, 6, none⟩) (Kd.R_mono (Kd.R_bound hRm) (fun q hq => (hq.2.1 : wr.heap.size ≤ q))) (fun q hq => by show q ≠ w.heap.size + 1; have : wr.heap.size ≤ q := hq; omega) (.slice Am ms.length cm)
          generalize w5.setCell ⟨w.heap.size + 1, 6, none⟩ (.slice Am ms.length cm) = w6 at hz6 hy6 hb6 hm6 ⊢
          obtain ⟨p0, p1, p2, p3, p4, p5, p6, p7, p8, p9⟩ := cells10 hz6
          obtain ⟨pf0, pf1, pf2, pf3, pf4, pf5, pf6, pf7, pf8, pf9⟩ := frozen10 hz6
          obtain ⟨r0, r1, r2, r3, r4, r5, r6, r7, r8, r9⟩ := cells10 hy6
          obtain ⟨rf0, rf1, rf2, rf3, rf4, rf5, rf6, rf7, rf8, rf9⟩ := frozen10 hy6
          go_wp2
          clear p0 p1 p2 p3 p4 p5 p6 p7 p8 p9 pf0 pf1 pf2 pf3 pf4 pf5 pf6 pf7 pf8 pf9
          clear r0 r1 r2 r3 r4 r5 r6 r7 r8 r9 rf0 rf1 rf2 rf3 rf4 rf5 rf6 rf7 rf8 rf9
          have hz9 := put10 hy6 (.int .i64 12) (.int .i64 0) (.string ⟨#[]⟩) (.string ⟨#[]⟩) (.slice none 0 0) (.int .i64 0) (.slice Am ms.length cm) (.int .i64 0) (.int .i64 0) (.int .i64 0)
          have hg9 := grown10 w6 w.heap.size (.int .i64 12) (.int .i64 0) (.string ⟨#[]⟩) (.string ⟨#[]⟩) (.slice none 0 0) (.int .i64 0) (.slice Am ms.length cm) (.int .i64 0) (.int .i64 0) (.int .i64 0)
          have hm9 := Kd.R_grown (Kd.R_mono (Kd.R_bound hm6) (fun q hq => (hq.1 : wr.heap.size ≤ q))) hg9 (fun q hq e => by have := Option.some.inj e; have : wr.heap.size ≤ q := hq; omega)
          generalize ((((((((((w6.setCell ⟨w.heap.size, 0, none⟩ (.int .i64 12)).setCell ⟨w.heap.size, 1, none⟩ (.int .i64 0)).setCell ⟨w.heap.size, 2, none⟩ (.string ⟨#[]⟩)).setCell ⟨w.heap.size, 3, none⟩ (.string ⟨#[]⟩)).setCell ⟨w.heap.size, 4, none⟩ (.slice none 0 0)).setCell ⟨w.heap.size, 5, none⟩ (.int .i64 0)).setCell ⟨w.heap.size, 6, none⟩ (.slice Am ms.length cm)).setCell ⟨w.heap.size, 7, none⟩ (.int .i64 0)).setCell ⟨w.heap.size, 8, none⟩ (.int .i64 0)).setCell ⟨w.heap.size, 9, none⟩ (.int .i64 0)) = w9 at hz9 hg9 hm9 ⊢
          obtain ⟨s0, s1, s2, s3, s4, s5, s6, s7, s8, s9⟩ := cells10 hz9
          have hb9 := pw_below_grown hb6 _ hb6.size hg9 (fun k e => by cases e; exact Nat.le_refl _)
          refine bodyPost_ret (v := .tuple #[.agg #[.int .i64 12, .int .i64 0, .string ⟨#[]⟩, .string ⟨#[]⟩, .slice none 0 0, .int .i64 0, .slice Am ms.length cm, .int .i64 0, .int .i64 0, .int .i64 0], .bool ok]) (by simp [results, Tryd.results83, go_sem, s0, s1, s2, s3, s4, s5, s6, s7, s8, s9]) rfl ?_
          exact ⟨.slice none 0 0, .slice Am ms.length cm, by rw [HRe.out]; rfl, by rw [HRe.out]; exact Kd.R_nil _ _ _ _ _, by rw [HRe.out]; exact Kd.R_lower (Kd.R_mono hm9 (fun _ _ => trivial)) hbi.size, hb9⟩
        · have hz4 : wr.heap[w.heap.size + 1]? = some (.cells #[.int .i64 13, .int .i64 0, .string ⟨#[]⟩, .string ⟨#[]⟩, .slice none 0 0, .int .i64 0, .slice none 0 0, .int .i64 0, .int .i64 0, .int .i64 0] 61) := hzk
          obtain ⟨p0, p1, p2, p3, p4, p5, p6, p7, p8, p9⟩ := cells10 hz4
          obtain ⟨pf0, pf1, pf2, pf3, pf4, pf5, pf6, pf7, pf8, pf9⟩ := frozen10 hz4
          obtain ⟨r0, r1, r2, r3, r4, r5, r6, r7, r8, r9⟩ := cells10 hyi
          obtain ⟨rf0, rf1, rf2, rf3, rf4, rf5, rf6, rf7, rf8, rf9⟩ := frozen10 hyi
          obtain ⟨⟨ms, ok⟩, hnt⟩ : ∃ r, numbersT t = r := ⟨_, rfl⟩
          have hnum := hnums wr hbi
          rw [hnt] at hnum
          have hrf := Hrf.out
          rw [hnt] at hrf
          replace Hrf := Lib.hid hrf
          clear hrf hnt hnums
          go_wp2_with fail
          refine hnum.mono ?_
          rintro en w5 ⟨vm, rfl, hRm, hb5⟩
          obtain ⟨Am, cm, em⟩ := Kd.R_slice hRm
          subst em
          have hlz := (Array.getElem?_eq_some_iff.1 hz4).1
          have hly := (Array.getElem?_eq_some_iff.1 hyi).1
          have hz5 := (hb5.block _ hlz).trans hz4
          have hy5 := (hb5.block _ hly).trans hyi
          have hbx := below_then hbi hbi.size hb5
          clear p0 p1 p2 p3 p4 p5 p6 p7 p8 p9 pf0 pf1 pf2 pf3 pf4 pf5 pf6 pf7 pf8 pf9
          clear r0 r1 r2 r3 r4 r5 r6 r7 r8 r9 rf0 rf1 rf2 rf3 rf4 rf5 rf6 rf7 rf8 rf9
          obtain ⟨p0, p1, p2, p3, p4, p5, p6, p7, p8, p9⟩ := cells10 hz5
          obtain ⟨pf0, pf1, pf2, pf3, pf4, pf5, pf6, pf7, pf8, pf9⟩ := frozen10 hz5
          obtain ⟨r0, r1, r2, r3, r4, r5, r6, r7, r8, r9⟩ := cells10 hy5
          obtain ⟨rf0, rf1, rf2, rf3, rf4, rf5, rf6, rf7, rf8, rf9⟩ := frozen10 hy5
          have hCm := (Kd.R_reads' hRm).2.2
          obtain ⟨m3, hm3⟩ : ∃ m3, ms.length = m3 := ⟨_, rfl⟩
          rw [hm3] at hCm ⊢
          have Hm3 := Lib.hid hm3
          clear hm3
          have hrs : R = (if ok = true ∧ ms.length = 3 ∧ 0 ≤ ms.getD 2 0 ∧ ms.getD 2 0 ≤ 255 then ({ zeroOp 13 with page := ms.getD 0 0, at_ := ms.getD 1 0, x := ms.getD 2 0 }, true) else (zeroOp 0, false)) := Hrf.out
          have Hrs := Lib.hid hrs
          clear hrs
          cases ok
          · have hRe : R = (zeroOp 0, false) := by rw [Hrs.out, if_neg (by simp)]
            have HRe := Lib.hid hRe
            clear hRe
            go_wp2
            clear p0 p1 p2 p3 p4 p5 p6 p7 p8 p9 pf0 pf1 pf2 pf3 pf4 pf5 pf6 pf7 pf8 pf9
            clear r0 r1 r2 r3 r4 r5 r6 r7 r8 r9 rf0 rf1 rf2 rf3 rf4 rf5 rf6 rf7 rf8 rf9
            have hz9 := put10 hy5 (.int .i64 0) (.int .i64 0) (.string ⟨#[]⟩) (.string ⟨#[]⟩) (.slice none 0 0) (.int .i64 0) (.slice none 0 0) (.int .i64 0) (.int .i64 0) (.int .i64 0)
            have hg9 := grown10 w5 w.heap.size (.int .i64 0) (.int .i64 0) (.string ⟨#[]⟩) (.string ⟨#[]⟩) (.slice none 0 0) (.int .i64 0) (.slice none 0 0) (.int .i64 0) (.int .i64 0) (.int .i64 0)
            generalize ((((((((((w5.setCell ⟨w.heap.size, 0, none⟩ (.int .i64 0)).setCell ⟨w.heap.size, 1, none⟩ (.int .i64 0)).setCell ⟨w.heap.size, 2, none⟩ (.string ⟨#[]⟩)).setCell ⟨w.heap.size, 3, none⟩ (.string ⟨#[]⟩)).setCell ⟨w.heap.size, 4, none⟩ (.slice none 0 0)).setCell ⟨w.heap.size, 5, none⟩ (.int .i64 0)).setCell ⟨w.heap.size, 6, none⟩ (.slice none 0 0)).setCell ⟨w.heap.size, 7, none⟩ (.int .i64 0)).setCell ⟨w.heap.size, 8, none⟩ (.int .i64 0)).setCell ⟨w.heap.size, 9, none⟩ (.int .i64 0)) = w9 at hz9 hg9 ⊢
            obtain ⟨s0, s1, s2, s3, s4, s5, s6, s7, s8, s9⟩ := cells10 hz9
            have hb9 := pw_below_grown hbx _ hbx.size hg9 (fun k e => by cases e; exact Nat.le_refl _)
            refine bodyPost_ret (v := .tuple #[.agg #[.int .i64 0, .int .i64 0, .string ⟨#[]⟩, .string ⟨#[]⟩, .slice none 0 0, .int .i64 0, .slice none 0 0, .int .i64 0, .int .i64 0, .int .i64 0], .bool false]) (by simp [results, Tryd.results83, go_sem, s0, s1, s2, s3, s4, s5, s6, s7, s8, s9]) rfl ?_
            exact ⟨.slice none 0 0, .slice none 0 0, by rw [HRe.out]; rfl, by rw [HRe.out]; exact Kd.R_nil _ _ _ _ _, by rw [HRe.out]; exact Kd.R_nil _ _ _ _ _, hb9⟩
          · by_cases h3 : m3 = 3
            · subst h3
              obtain ⟨a, b, d, rfl⟩ : ∃ a b d, ms = [a, b, d] := by
                have := Hm3.out
                match ms with
                | [a, b, d] => exact ⟨a, b, d, rfl⟩
                | [] => simp at this
                | [_] => simp at this
                | [_, _] => simp at this
                | _ :: _ :: _ :: _ :: _ => simp at this
              change Kd.R (Kd.int .i64) 3 w5 wr.heap.size _ (.slice Am 3 cm) [a, b, d] at hRm
              obtain ⟨adm, em, cm1⟩ := Kd.at_int hCm 0 (by decide) (by decide)
              subst em
              have cm0 : w5.cell? adm = some (.int .i64 a) := by
                have h := cm1
                rw [show adm.add (0 : Int).toNat = adm by simp [Addr.add]] at h
                exact h
              clear cm1
              have hrd : ∀ W, Kd.R (Kd.int .i64) 3 W wr.heap.size (fun _ => True) (.slice (some adm) 3 cm) [a, b, d] → W.cell? { block := adm.block, off := adm.off + 1 } = some (.int .i64 b) ∧ W.cell? { block := adm.block, off := adm.off + 2 } = some (.int .i64 d) := fun W hW => by
                have h := (Kd.R_reads' hW).2.2
                obtain ⟨a1, e1, c1⟩ := Kd.at_int h 1 (by decide) (by simp)
                cases e1
                obtain ⟨a2, e2, c2⟩ := Kd.at_int h 2 (by decide) (by simp)
                cases e2
                exact ⟨c1, c2⟩
              obtain ⟨cb5, cd5⟩ := hrd w5 hRm
              by_cases hd0 : d < 0
              · have t4 : decide (d < 0) = true := decide_eq_true hd0
                have hRe : R = (zeroOp 0, false) := by rw [Hrs.out, if_neg (fun h => by have : (0 : Int) ≤ d := h.2.2.1; omega)]
                have HRe := Lib.hid hRe
                clear hRe
                clear hd0
                go_wp2
                clear p0 p1 p2 p3 p4 p5 p6 p7 p8 p9 pf0 pf1 pf2 pf3 pf4 pf5 pf6 pf7 pf8 pf9
                clear r0 r1 r2 r3 r4 r5 r6 r7 r8 r9 rf0 rf1 rf2 rf3 rf4 rf5 rf6 rf7 rf8 rf9
                have hz9 := put10 hy5 (.int .i64 0) (.int .i64 0) (.string ⟨#[]⟩) (.string ⟨#[]⟩) (.slice none 0 0) (.int .i64 0) (.slice none 0 0) (.int .i64 0) (.int .i64 0) (.int .i64 0)
                have hg9 := grown10 w5 w.heap.size (.int .i64 0) (.int .i64 0) (.string ⟨#[]⟩) (.string ⟨#[]⟩) (.slice none 0 0) (.int .i64 0) (.slice none 0 0) (.int .i64 0) (.int .i64 0) (.int .i64 0)
                generalize ((((((((((w5.setCell ⟨w.heap.size, 0, none⟩ (.int .i64 0)).setCell ⟨w.heap.size, 1, none⟩ (.int .i64 0)).setCell ⟨w.heap.size, 2, none⟩ (.string ⟨#[]⟩)).setCell ⟨w.heap.size, 3, none⟩ (.string ⟨#[]⟩)).setCell ⟨w.heap.size, 4, none⟩ (.slice none 0 0)).setCell ⟨w.heap.size, 5, none⟩ (.int .i64 0)).setCell ⟨w.heap.size, 6, none⟩ (.slice none 0 0)).setCell ⟨w.heap.size, 7, none⟩ (.int .i64 0)).setCell ⟨w.heap.size, 8, none⟩ (.int .i64 0)).setCell ⟨w.heap.size, 9, none⟩ (.int .i64 0)) = w9 at hz9 hg9 ⊢
                obtain ⟨s0, s1, s2, s3, s4, s5, s6, s7, s8, s9⟩ := cells10 hz9
                have hb9 := pw_below_grown hbx _ hbx.size hg9 (fun k e => by cases e; exact Nat.le_refl _)
                refine bodyPost_ret (v := .tuple #[.agg #[.int .i64 0, .int .i64 0, .string ⟨#[]⟩, .string ⟨#[]⟩, .slice none 0 0, .int .i64 0, .slice none 0 0, .int .i64 0, .int .i64 0, .int .i64 0], .bool false]) (by simp [results, Tryd.results83, go_sem, s0, s1, s2, s3, s4, s5, s6, s7, s8, s9]) rfl ?_
                exact ⟨.slice none 0 0, .slice none 0 0, by rw [HRe.out]; rfl, by rw [HRe.out]; exact Kd.R_nil _ _ _ _ _, by rw [HRe.out]; exact Kd.R_nil _ _ _ _ _, hb9⟩
              · have t4 : decide (d < 0) = false := decide_eq_false hd0
                by_cases hd1 : 255 < d
                · have t5 : decide (255 < d) = true := decide_eq_true hd1
                  have t6 : decide (d > 255) = true := decide_eq_true hd1
                  have hRe : R = (zeroOp 0, false) := by rw [Hrs.out, if_neg (fun h => by have : d ≤ (255 : Int) := h.2.2.2; omega)]
                  have HRe := Lib.hid hRe
                  clear hRe
                  clear hd1 hd0
                  go_wp2
                  clear p0 p1 p2 p3 p4 p5 p6 p7 p8 p9 pf0 pf1 pf2 pf3 pf4 pf5 pf6 pf7 pf8 pf9
                  clear r0 r1 r2 r3 r4 r5 r6 r7 r8 r9 rf0 rf1 rf2 rf3 rf4 rf5 rf6 rf7 rf8 rf9
                  have hz9 := put10 hy5 (.int .i64 0) (.int .i64 0) (.string ⟨#[]⟩) (.string ⟨#[]⟩) (.slice none 0 0) (.int .i64 0) (.slice none 0 0) (.int .i64 0) (.int .i64 0) (.int .i64 0)
                  have hg9 := grown10 w5 w.heap.size (.int .i64 0) (.int .i64 0) (.string ⟨#[]⟩) (.string ⟨#[]⟩) (.slice none 0 0) (.int .i64 0) (.slice none 0 0) (.int .i64 0) (.int .i64 0) (.int .i64 0)
                  generalize ((((((((((w5.setCell ⟨w.heap.size, 0, none⟩ (.int .i64 0)).setCell ⟨w.heap.size, 1, none⟩ (.int .i64 0)).setCell ⟨w.heap.size, 2, none⟩ (.string ⟨#[]⟩)).setCell ⟨w.heap.size, 3, none⟩ (.string ⟨#[]⟩)).setCell ⟨w.heap.size, 4, none⟩ (.slice none 0 0)).setCell ⟨w.heap.size, 5, none⟩ (.int .i64 0)).setCell ⟨w.heap.size, 6, none⟩ (.slice none 0 0)).setCell ⟨w.heap.size, 7, none⟩ (.int .i64 0)).setCell ⟨w.heap.size, 8, none⟩ (.int .i64 0)).setCell ⟨w.heap.size, 9, none⟩ (.int .i64 0)) = w9 at hz9 hg9 ⊢
                  obtain ⟨s0, s1, s2, s3, s4, s5, s6, s7, s8, s9⟩ := cells10 hz9
                  have hb9 := pw_below_grown hbx _ hbx.size hg9 (fun k e => by cases e; exact Nat.le_refl _)
                  refine bodyPost_ret (v := .tuple #[.agg #[.int .i64 0, .int .i64 0, .string ⟨#[]⟩, .string ⟨#[]⟩, .slice none 0 0, .int .i64 0, .slice none 0 0, .int .i64 0, .int .i64 0, .int .i64 0], .bool false]) (by simp [results, Tryd.results83, go_sem, s0, s1, s2, s3, s4, s5, s6, s7, s8, s9]) rfl ?_
                  exact ⟨.slice none 0 0, .slice none 0 0, by rw [HRe.out]; rfl, by rw [HRe.out]; exact Kd.R_nil _ _ _ _ _, by rw [HRe.out]; exact Kd.R_nil _ _ _ _ _, hb9⟩
                · have t5 : decide (255 < d) = false := decide_eq_false hd1
                  have t6 : decide (d > 255) = false := decide_eq_false hd1
                  have hRe : R = ({ zeroOp 13 with page := a, at_ := b, x := d }, true) := by rw [Hrs.out, if_pos ⟨rfl, rfl, by show (0 : Int) ≤ d; omega, by show d ≤ (255 : Int); omega⟩]; rfl
                  have HRe := Lib.hid hRe
                  clear hRe
                  clear hd0 hd1
                  have hR1 := Kd.R_far (p := ⟨w.heap.size + 1, 7, none⟩) (Kd.R_mono (Kd.R_bound hRm) (fun q hq => (hq.2.1 : wr.heap.size ≤ q))) (fun q hq => by show q ≠ w.heap.size + 1; have : wr.heap.size ≤ q := hq; omega) (.int .i64 a)
                  have hR2 := Kd.R_far (p := ⟨w.heap.size + 1, 8, none⟩) hR1 (fun q hq => by show q ≠ w.heap.size + 1; have : wr.heap.size ≤ q := hq; omega) (.int .i64 b)
                  obtain ⟨cb6, cd6⟩ := hrd _ (Kd.R_mono hR1 (fun _ _ => trivial))
                  obtain ⟨cb7, cd7⟩ := hrd _ (Kd.R_mono hR2 (fun _ _ => trivial))
                  clear hrd hR1 hR2
                  go_upto_region 30 with (fail)
                  go_region
                  have hzd0 : (w5.setCell ⟨w.heap.size + 1, 7, none⟩ (.int .i64 a)).heap[w.heap.size + 1]? = some (.cells #[.int .i64 13, .int .i64 0, .string ⟨#[]⟩, .string ⟨#[]⟩, .slice none 0 0, .int .i64 0, .slice none 0 0, .int .i64 a, .int .i64 0, .int .i64 0] 61) := set_heap hz5 7 (.int .i64 a)
                  have hyd0 := blk_far (p := ⟨w.heap.size + 1, 7, none⟩) hy5 (by simp) (.int .i64 a)
                  have hbd0 := pw_below_grown hbx _ hbx.size (set_grown w5 (w.heap.size + 1) 7 (.int .i64 a)) (fun q e => by cases e; omega)
                  have hzd1 : ((w5.setCell ⟨w.heap.size + 1, 7, none⟩ (.int .i64 a)).setCell ⟨w.heap.size + 1, 8, none⟩ (.int .i64 b)).heap[w.heap.size + 1]? = some (.cells #[.int .i64 13, .int .i64 0, .string ⟨#[]⟩, .string ⟨#[]⟩, .slice none 0 0, .int .i64 0, .slice none 0 0, .int .i64 a, .int .i64 b, .int .i64 0] 61) := set_heap hzd0 8 (.int .i64 b)
                  have hyd1 := blk_far (p := ⟨w.heap.size + 1, 8, none⟩) hyd0 (by simp) (.int .i64 b)
                  have hbd1 := pw_below_grown hbd0 _ hbd0.size (set_grown (w5.setCell ⟨w.heap.size + 1, 7, none⟩ (.int .i64 a)) (w.heap.size + 1) 8 (.int .i64 b)) (fun q e => by cases e; omega)
                  have hzd2 : (((w5.setCell ⟨w.heap.size + 1, 7, none⟩ (.int .i64 a)).setCell ⟨w.heap.size + 1, 8, none⟩ (.int .i64 b)).setCell ⟨w.heap.size + 1, 9, none⟩ (.int .i64 d)).heap[w.heap.size + 1]? = some (.cells #[.int .i64 13, .int .i64 0, .string ⟨#[]⟩, .string ⟨#[]⟩, .slice none 0 0, .int .i64 0, .slice none 0 0, .int .i64 a, .int .i64 b, .int .i64 d] 61) := set_heap hzd1 9 (.int .i64 d)
                  have hyd2 := blk_far (p := ⟨w.heap.size + 1, 9, none⟩) hyd1 (by simp) (.int .i64 d)
                  have hbd2 := pw_below_grown hbd1 _ hbd1.size (set_grown ((w5.setCell ⟨w.heap.size + 1, 7, none⟩ (.int .i64 a)).setCell ⟨w.heap.size + 1, 8, none⟩ (.int .i64 b)) (w.heap.size + 1) 9 (.int .i64 d)) (fun q e => by cases e; omega)
                  have hz8 : (((w5.setCell ⟨w.heap.size + 1, 7, none⟩ (.int .i64 a)).setCell ⟨w.heap.size + 1, 8, none⟩ (.int .i64 b)).setCell ⟨w.heap.size + 1, 9, none⟩ (.int .i64 d)).drew.heap[w.heap.size + 1]? = _ := hzd2
                  have hy8 : (((w5.setCell ⟨w.heap.size + 1, 7, none⟩ (.int .i64 a)).setCell ⟨w.heap.size + 1, 8, none⟩ (.int .i64 b)).setCell ⟨w.heap.size + 1, 9, none⟩ (.int .i64 d)).drew.heap[w.heap.size]? = _ := hyd2
                  have hb8 := below_drew hbd2
                  generalize (((w5.setCell ⟨w.heap.size + 1, 7, none⟩ (.int .i64 a)).setCell ⟨w.heap.size + 1, 8, none⟩ (.int .i64 b)).setCell ⟨w.heap.size + 1, 9, none⟩ (.int .i64 d)).drew = w8 at hz8 hy8 hb8 ⊢
                  clear cb5 cd5 cb6 cd6 cb7 cd7 cm0
                  clear p0 p1 p2 p3 p4 p5 p6 p7 p8 p9 pf0 pf1 pf2 pf3 pf4 pf5 pf6 pf7 pf8 pf9
                  clear r0 r1 r2 r3 r4 r5 r6 r7 r8 r9 rf0 rf1 rf2 rf3 rf4 rf5 rf6 rf7 rf8 rf9
                  obtain ⟨p0, p1, p2, p3, p4, p5, p6, p7, p8, p9⟩ := cells10 hz8
                  obtain ⟨pf0, pf1, pf2, pf3, pf4, pf5, pf6, pf7, pf8, pf9⟩ := frozen10 hz8
                  obtain ⟨r0, r1, r2, r3, r4, r5, r6, r7, r8, r9⟩ := cells10 hy8
                  obtain ⟨rf0, rf1, rf2, rf3, rf4, rf5, rf6, rf7, rf8, rf9⟩ := frozen10 hy8
                  go_wp2
                  clear p0 p1 p2 p3 p4 p5 p6 p7 p8 p9 pf0 pf1 pf2 pf3 pf4 pf5 pf6 pf7 pf8 pf9
                  clear r0 r1 r2 r3 r4 r5 r6 r7 r8 r9 rf0 rf1 rf2 rf3 rf4 rf5 rf6 rf7 rf8 rf9
                  have hz9 := put10 hy8 (.int .i64 13) (.int .i64 0) (.string ⟨#[]⟩) (.string ⟨#[]⟩) (.slice none 0 0) (.int .i64 0) (.slice none 0 0) (.int .i64 a) (.int .i64 b) (.int .i64 d)
                  have hg9 := grown10 w8 w.heap.size (.int .i64 13) (.int .i64 0) (.string ⟨#[]⟩) (.string ⟨#[]⟩) (.slice none 0 0) (.int .i64 0) (.slice none 0 0) (.int .i64 a) (.int .i64 b) (.int .i64 d)
                  generalize ((((((((((w8.setCell ⟨w.heap.size, 0, none⟩ (.int .i64 13)).setCell ⟨w.heap.size, 1, none⟩ (.int .i64 0)).setCell ⟨w.heap.size, 2, none⟩ (.string ⟨#[]⟩)).setCell ⟨w.heap.size, 3, none⟩ (.string ⟨#[]⟩)).setCell ⟨w.heap.size, 4, none⟩ (.slice none 0 0)).setCell ⟨w.heap.size, 5, none⟩ (.int .i64 0)).setCell ⟨w.heap.size, 6, none⟩ (.slice none 0 0)).setCell ⟨w.heap.size, 7, none⟩ (.int .i64 a)).setCell ⟨w.heap.size, 8, none⟩ (.int .i64 b)).setCell ⟨w.heap.size, 9, none⟩ (.int .i64 d)) = w9 at hz9 hg9 ⊢
                  obtain ⟨s0, s1, s2, s3, s4, s5, s6, s7, s8, s9⟩ := cells10 hz9
                  have hb9 := pw_below_grown hb8 _ hb8.size hg9 (fun k e => by cases e; exact Nat.le_refl _)
                  refine bodyPost_ret (v := .tuple #[.agg #[.int .i64 13, .int .i64 0, .string ⟨#[]⟩, .string ⟨#[]⟩, .slice none 0 0, .int .i64 0, .slice none 0 0, .int .i64 a, .int .i64 b, .int .i64 d], .bool true]) (by simp [results, Tryd.results83, go_sem, s0, s1, s2, s3, s4, s5, s6, s7, s8, s9]) rfl ?_
                  exact ⟨.slice none 0 0, .slice none 0 0, by rw [HRe.out]; rfl, by rw [HRe.out]; exact Kd.R_nil _ _ _ _ _, by rw [HRe.out]; exact Kd.R_nil _ _ _ _ _, hb9⟩
            · have t2 : ((m3 : Int) != 3) = true := bne_iff_ne.2 (by omega)
              have hRe : R = (zeroOp 0, false) := by rw [Hrs.out, if_neg (fun h => h3 (by rw [← Hm3.out]; exact h.2.1))]
              have HRe := Lib.hid hRe
              clear hRe
              clear h3
              go_wp2
              clear p0 p1 p2 p3 p4 p5 p6 p7 p8 p9 pf0 pf1 pf2 pf3 pf4 pf5 pf6 pf7 pf8 pf9
              clear r0 r1 r2 r3 r4 r5 r6 r7 r8 r9 rf0 rf1 rf2 rf3 rf4 rf5 rf6 rf7 rf8 rf9
              have hz9 := put10 hy5 (.int .i64 0) (.int .i64 0) (.string ⟨#[]⟩) (.string ⟨#[]⟩) (.slice none 0 0) (.int .i64 0) (.slice none 0 0) (.int .i64 0) (.int .i64 0) (.int .i64 0)
              have hg9 := grown10 w5 w.heap.size (.int .i64 0) (.int .i64 0) (.string ⟨#[]⟩) (.string ⟨#[]⟩) (.slice none 0 0) (.int .i64 0) (.slice none 0 0) (.int .i64 0) (.int .i64 0) (.int .i64 0)
              generalize ((((((((((w5.setCell ⟨w.heap.size, 0, none⟩ (.int .i64 0)).setCell ⟨w.heap.size, 1, none⟩ (.int .i64 0)).setCell ⟨w.heap.size, 2, none⟩ (.string ⟨#[]⟩)).setCell ⟨w.heap.size, 3, none⟩ (.string ⟨#[]⟩)).setCell ⟨w.heap.size, 4, none⟩ (.slice none 0 0)).setCell ⟨w.heap.size, 5, none⟩ (.int .i64 0)).setCell ⟨w.heap.size, 6, none⟩ (.slice none 0 0)).setCell ⟨w.heap.size, 7, none⟩ (.int .i64 0)).setCell ⟨w.heap.size, 8, none⟩ (.int .i64 0)).setCell ⟨w.heap.size, 9, none⟩ (.int .i64 0)) = w9 at hz9 hg9 ⊢
              obtain ⟨s0, s1, s2, s3, s4, s5, s6, s7, s8, s9⟩ := cells10 hz9
              have hb9 := pw_below_grown hbx _ hbx.size hg9 (fun k e => by cases e; exact Nat.le_refl _)
              refine bodyPost_ret (v := .tuple #[.agg #[.int .i64 0, .int .i64 0, .string ⟨#[]⟩, .string ⟨#[]⟩, .slice none 0 0, .int .i64 0, .slice none 0 0, .int .i64 0, .int .i64 0, .int .i64 0], .bool false]) (by simp [results, Tryd.results83, go_sem, s0, s1, s2, s3, s4, s5, s6, s7, s8, s9]) rfl ?_
              exact ⟨.slice none 0 0, .slice none 0 0, by rw [HRe.out]; rfl, by rw [HRe.out]; exact Kd.R_nil _ _ _ _ _, by rw [HRe.out]; exact Kd.R_nil _ _ _ _ _, hb9⟩
        · have hz4 : wr.heap[w.heap.size + 1]? = some (.cells #[.int .i64 14, .int .i64 0, .string ⟨#[]⟩, .string ⟨#[]⟩, .slice none 0 0, .int .i64 0, .slice none 0 0, .int .i64 0, .int .i64 0, .int .i64 0] 61) := hzk
          obtain ⟨p0, p1, p2, p3, p4, p5, p6, p7, p8, p9⟩ := cells10 hz4
          obtain ⟨pf0, pf1, pf2, pf3, pf4, pf5, pf6, pf7, pf8, pf9⟩ := frozen10 hz4
          obtain ⟨r0, r1, r2, r3, r4, r5, r6, r7, r8, r9⟩ := cells10 hyi
          obtain ⟨rf0, rf1, rf2, rf3, rf4, rf5, rf6, rf7, rf8, rf9⟩ := frozen10 hyi
          by_cases h0 : m2 = 0
          · subst h0
            have hRe : R = (zeroOp 14, true) := by rw [show R = (zeroOp 14, decide (t.length = 0)) from Hrf.out, decide_eq_true Hm2.out]
            have HRe := Lib.hid hRe
            clear hRe
            go_wp2
            clear p0 p1 p2 p3 p4 p5 p6 p7 p8 p9 pf0 pf1 pf2 pf3 pf4 pf5 pf6 pf7 pf8 pf9
            clear r0 r1 r2 r3 r4 r5 r6 r7 r8 r9 rf0 rf1 rf2 rf3 rf4 rf5 rf6 rf7 rf8 rf9
            have hz9 := put10 hyi (.int .i64 14) (.int .i64 0) (.string ⟨#[]⟩) (.string ⟨#[]⟩) (.slice none 0 0) (.int .i64 0) (.slice none 0 0) (.int .i64 0) (.int .i64 0) (.int .i64 0)
            have hg9 := grown10 wr w.heap.size (.int .i64 14) (.int .i64 0) (.string ⟨#[]⟩) (.string ⟨#[]⟩) (.slice none 0 0) (.int .i64 0) (.slice none 0 0) (.int .i64 0) (.int .i64 0) (.int .i64 0)
            generalize ((((((((((wr.setCell ⟨w.heap.size, 0, none⟩ (.int .i64 14)).setCell ⟨w.heap.size, 1, none⟩ (.int .i64 0)).setCell ⟨w.heap.size, 2, none⟩ (.string ⟨#[]⟩)).setCell ⟨w.heap.size, 3, none⟩ (.string ⟨#[]⟩)).setCell ⟨w.heap.size, 4, none⟩ (.slice none 0 0)).setCell ⟨w.heap.size, 5, none⟩ (.int .i64 0)).setCell ⟨w.heap.size, 6, none⟩ (.slice none 0 0)).setCell ⟨w.heap.size, 7, none⟩ (.int .i64 0)).setCell ⟨w.heap.size, 8, none⟩ (.int .i64 0)).setCell ⟨w.heap.size, 9, none⟩ (.int .i64 0)) = w9 at hz9 hg9 ⊢
            obtain ⟨s0, s1, s2, s3, s4, s5, s6, s7, s8, s9⟩ := cells10 hz9
            have hb9 := pw_below_grown hbi _ hbi.size hg9 (fun k e => by cases e; exact Nat.le_refl _)
            refine bodyPost_ret (v := .tuple #[.agg #[.int .i64 14, .int .i64 0, .string ⟨#[]⟩, .string ⟨#[]⟩, .slice none 0 0, .int .i64 0, .slice none 0 0, .int .i64 0, .int .i64 0, .int .i64 0], .bool true]) (by simp [results, Tryd.results83, go_sem, s0, s1, s2, s3, s4, s5, s6, s7, s8, s9]) rfl ?_
            exact ⟨.slice none 0 0, .slice none 0 0, by rw [HRe.out]; rfl, by rw [HRe.out]; exact Kd.R_nil _ _ _ _ _, by rw [HRe.out]; exact Kd.R_nil _ _ _ _ _, hb9⟩
          · have t2 : ((m2 : Int) == 0) = false := beq_eq_false_iff_ne.2 (by omega)
            have hRe : R = (zeroOp 14, false) := by rw [show R = (zeroOp 14, decide (t.length = 0)) from Hrf.out, decide_eq_false (by rw [Hm2.out]; exact h0)]
            have HRe := Lib.hid hRe
            clear hRe h0
            go_wp2
            clear p0 p1 p2 p3 p4 p5 p6 p7 p8 p9 pf0 pf1 pf2 pf3 pf4 pf5 pf6 pf7 pf8 pf9
            clear r0 r1 r2 r3 r4 r5 r6 r7 r8 r9 rf0 rf1 rf2 rf3 rf4 rf5 rf6 rf7 rf8 rf9
            have hz9 := put10 hyi (.int .i64 14) (.int .i64 0) (.string ⟨#[]⟩) (.string ⟨#[]⟩) (.slice none 0 0) (.int .i64 0) (.slice none 0 0) (.int .i64 0) (.int .i64 0) (.int .i64 0)
            have hg9 := grown10 wr w.heap.size (.int .i64 14) (.int .i64 0) (.string ⟨#[]⟩) (.string ⟨#[]⟩) (.slice none 0 0) (.int .i64 0) (.slice none 0 0) (.int .i64 0) (.int .i64 0) (.int .i64 0)
            generalize ((((((((((wr.setCell ⟨w.heap.size, 0, none⟩ (.int .i64 14)).setCell ⟨w.heap.size, 1, none⟩ (.int .i64 0)).setCell ⟨w.heap.size, 2, none⟩ (.string ⟨#[]⟩)).setCell ⟨w.heap.size, 3, none⟩ (.string ⟨#[]⟩)).setCell ⟨w.heap.size, 4, none⟩ (.slice none 0 0)).setCell ⟨w.heap.size, 5, none⟩ (.int .i64 0)).setCell ⟨w.heap.size, 6, none⟩ (.slice none 0 0)).setCell ⟨w.heap.size, 7, none⟩ (.int .i64 0)).setCell ⟨w.heap.size, 8, none⟩ (.int .i64 0)).setCell ⟨w.heap.size, 9, none⟩ (.int .i64 0)) = w9 at hz9 hg9 ⊢
            obtain ⟨s0, s1, s2, s3, s4, s5, s6, s7, s8, s9⟩ := cells10 hz9
            have hb9 := pw_below_grown hbi _ hbi.size hg9 (fun k e => by cases e; exact Nat.le_refl _)
            refine bodyPost_ret (v := .tuple #[.agg #[.int .i64 14, .int .i64 0, .string ⟨#[]⟩, .string ⟨#[]⟩, .slice none 0 0, .int .i64 0, .slice none 0 0, .int .i64 0, .int .i64 0, .int .i64 0], .bool false]) (by simp [results, Tryd.results83, go_sem, s0, s1, s2, s3, s4, s5, s6, s7, s8, s9]) rfl ?_
            exact ⟨.slice none 0 0, .slice none 0 0, by rw [HRe.out]; rfl, by rw [HRe.out]; exact Kd.R_nil _ _ _ _ _, by rw [HRe.out]; exact Kd.R_nil _ _ _ _ _, hb9⟩
      · have hwc := (World.var?_cell (g := 0) (by kernel_rfl) (hT.below hbi).wd k).trans (word_cell k hlt)
        have d1 : decide ((k : Int) < 15) = true := decide_eq_true (by omega)
        have czk : wr.cell? ⟨w.heap.size + 1, 0, none⟩ = some (.int .i64 (refK x k)) := Lib.cell_of_heap hzk 0
        have fzk : wr.frozen? ⟨w.heap.size + 1, 0, none⟩ = false := Lib.frozen_of_heap hzk 0
        have cxi := (hbi.cell (World.block_lt_of_cell? w _ c00)).trans c00
        by_cases hm : (wordAt k).toList = x.toList
        · have t2 : ((wordAt k).toList == x.toList) = true := beq_iff_eq.2 hm
          have hrk : refK x (k + 1) = k := by rw [refK, if_pos ⟨hk1, hm⟩]
          have Hrk := Lib.hid hrk
          clear hm hrk
          go_upto_region 7 with (fail)
          go_quiet (fail)
          go_wp2
          go_roundw
          case rel => exact ⟨k + 1, by omega, by omega, by simp, pw_below_grown (below_then hbi hbi.size (pw_below_drewN (Below.refl _ wr) nq)) _ hbi.size (set_grown (wr.drewN nq) (w.heap.size + 1) 0 (.int .i64 k)) (fun q e => by cases e; omega), by rw [Hrk.out]; exact set_heap (W := wr.drewN nq) (by rw [World.heap_drewN]; exact hzk) 0 (.int .i64 k), blk_far (w := wr.drewN nq) (by rw [World.heap_drewN]; exact hyi) (by simp) _⟩
          case measure => simp [intOf]; omega
        · have t2 : ((wordAt k).toList == x.toList) = false := beq_eq_false_iff_ne.2 hm
          have hrk : refK x (k + 1) = refK x k := by rw [refK, if_neg (fun h => hm h.2)]
          have Hrk := Lib.hid hrk
          clear hm hrk
          go_upto_region 7 with (fail)
          go_quiet (fail)
          go_wp2
          go_roundw
          case rel => exact ⟨k + 1, by omega, by omega, by simp, below_then hbi hbi.size (pw_below_drewN (Below.refl _ wr) nq), by rw [World.heap_drewN, Hrk.out]; exact hzk, by rw [World.heap_drewN]; exact hyi⟩
          case measure => simp [intOf]; omega
end Go.Proofs.YtfaelejeihmgcaaDoor.Stp
end

section
namespace Go.Proofs.YtfaelejeihmgcaaDoor.Stp
open Go.RowKit Go.Proofs.YtfaelejeihmgcaaDoorW.PrintWords
theorem number_k (x : ByteArray) (hx : x.size ≤ 1099511627776) (k : Nat) (hk : 100 ≤ k) : cachepotref3_number.f k x = some (numT x) := by
  obtain ⟨m, rfl⟩ : ∃ m, k = 100 + m := ⟨k - 100, by omega⟩
  clear hk
  induction m with
  | zero => exact number_f x hx
  | succ m ih => exact cachepotref3_number.mono _ _ _ ih
def numsT : List ByteArray → List Int → List Int × Bool
  | [], out => (out, true)
  | x :: l, out => if (numT x).2 = true then numsT l (out ++ [(numT x).1]) else ([], false)
theorem numbers_l0 (l : List ByteArray) (hs : ∀ x ∈ l, x.size ≤ 1099511627776) (hl : l.length ≤ 1048576) : ∀ (d k i : Nat) (out : List Int), l.length - i = d → i ≤ l.length → d + 150 ≤ k → out.length ≤ i →
    cachepotref3_numbers.l0 k l out (i : Int) = some (numsT (l.drop i) out) := by
  intro d
  induction d with
  | zero =>
    intro k i out hd hi hk _
    obtain ⟨k, rfl⟩ : ∃ m, k = m + 1 := ⟨k - 1, by omega⟩
    rw [cachepotref3_numbers.l0, if_neg (by omega), List.drop_eq_nil_of_le (by omega), numsT]
  | succ d ih =>
    intro k i out hd hi hk ho
    obtain ⟨k, rfl⟩ : ∃ m, k = m + 1 := ⟨k - 1, by omega⟩
    have hlt : i < l.length := by omega
    rw [cachepotref3_numbers.l0, if_pos (by omega), if_pos (by omega), rdstr hlt, number_k _ (hs _ (List.getElem_mem hlt)) k (by omega), Option.bind_some, List.drop_eq_getElem_cons hlt, numsT]
    by_cases h : (numT l[i]).2 = true
    · rw [if_pos h, if_pos h, if_pos (by omega), w64 (v := (i : Int) + 1) (by omega) (by omega)]
      exact ih k (i + 1) _ (by omega) (by omega) (by omega) (by simp; omega)
    · rw [if_neg h, if_neg h]
theorem numbers_f (l : List ByteArray) (hs : ∀ x ∈ l, x.size ≤ 1099511627776) (hl : l.length ≤ 1048576) : cachepotref3_numbers.f (l.length + 200) l = some (numsT l []) := by
  have h := numbers_l0 l hs hl l.length (l.length + 200) 0 [] (by omega) (by omega) (by omega) (by simp)
  exact h
theorem numberT_eq (x : ByteArray) (hx : x.size ≤ 1099511627776) : numberT x = numT x := by
  unfold numberT
  rw [number_f x hx]
  rfl
theorem numbersT_eq (l : List ByteArray) (hs : ∀ x ∈ l, x.size ≤ 1099511627776) (hl : l.length ≤ 1048576) : numbersT l = numsT l [] := by
  unfold numbersT
  rw [numbers_f l hs hl]
  rfl
theorem fits_ne (c v : Int) (h : c ≠ 120) : fitsB c v = fitsB 77 v := by
  unfold fitsB
  rw [if_neg h, if_neg (show ¬ (77 : Int) = 120 by decide)]
theorem fits_x (v : Int) : fitsB 120 v = true ↔ 0 ≤ v ∧ v ≤ 255 := by
  unfold fitsB
  rw [if_pos rfl]
  simp
theorem num_iff (x : ByteArray) : ((readT x).2 = true ∧ fitsB 77 (readT x).1 = true) ↔ (numT x).2 = true := by
  constructor
  · rintro ⟨h1, h2⟩
    rw [read_num x (readT x).1 (Prod.ext rfl h1) h2]
  · intro h
    obtain ⟨h1, h2⟩ := num_read x (numT x).1 (Prod.ext rfl h)
    rw [h1]
    exact ⟨rfl, h2⟩
theorem num_val (x : ByteArray) (h : (numT x).2 = true) : (readT x).1 = (numT x).1 := by
  rw [(num_read x (numT x).1 (Prod.ext rfl h)).1]
theorem one_num (o : OpV) (c : Int) (x : ByteArray) (h1 : c ≠ 107) (h2 : c ≠ 118) (h3 : c ≠ 120) : oneF o c x = if (numT x).2 = true then (true, setNum o c (numT x).1) else (false, o) := by
  unfold oneF
  rw [if_neg h1, if_neg h2, fits_ne c _ h3]
  by_cases h : (numT x).2 = true
  · rw [if_pos ((num_iff x).2 h), if_pos h, num_val x h]
  · rw [if_neg (fun e => h ((num_iff x).1 e)), if_neg h]
theorem one_x (o : OpV) (x : ByteArray) : oneF o 120 x = if (numT x).2 = true ∧ 0 ≤ (numT x).1 ∧ (numT x).1 ≤ 255 then (true, { o with x := (numT x).1 }) else (false, o) := by
  unfold oneF
  rw [if_neg (by decide), if_neg (by decide)]
  by_cases h : (numT x).2 = true ∧ 0 ≤ (numT x).1 ∧ (numT x).1 ≤ 255
  · rw [if_pos h, num_val x h.1, if_pos ⟨((num_iff x).2 h.1).1, (fits_x _).2 h.2⟩]
    rfl
  · rw [if_neg h, if_neg]
    rintro ⟨e1, e2⟩
    have e3 := (fits_x _).1 e2
    have e4 : fitsB 77 (readT x).1 = true := (fits_iff _).2 ⟨by omega, by omega⟩
    have e5 := (num_iff x).1 ⟨e1, e4⟩
    rw [num_val x e5] at e3
    exact h ⟨e5, e3⟩
theorem fillM_nums : ∀ (l : List ByteArray) (ms : List Int), ((fillM l ms).1 = (numsT l ms).2) ∧ ((numsT l ms).2 = true → (fillM l ms).2 = (numsT l ms).1)
  | [], ms => ⟨rfl, fun _ => rfl⟩
  | x :: l, ms => by
    rw [fillM, numsT]
    by_cases h : (numT x).2 = true
    · rw [if_pos ((num_iff x).2 h), if_pos h, num_val x h]
      exact fillM_nums l _
    · rw [if_neg (fun e => h ((num_iff x).1 e)), if_neg h]
      exact ⟨rfl, fun e => by cases e⟩
theorem fill_nil (o : OpV) (l : List ByteArray) : fillF [] o l = (decide (l.length = 0), o) := rfl
theorem fill_end (c : UInt8) (fs : List UInt8) (o : OpV) (h1 : (c.toNat : Int) ≠ 75) (h2 : (c.toNat : Int) ≠ 77) : fillF (c :: fs) o [] = (false, o) := by
  rw [fillF, if_neg h1, if_neg h2, if_pos (show ([] : List ByteArray).length = 0 from rfl)]
theorem fill_one (c : UInt8) (fs : List UInt8) (o : OpV) (y : ByteArray) (u : List ByteArray) (h1 : (c.toNat : Int) ≠ 75) (h2 : (c.toNat : Int) ≠ 77) :
    fillF (c :: fs) o (y :: u) = if (oneF o (c.toNat : Int) y).1 = true then fillF fs (oneF o (c.toNat : Int) y).2 u else (false, o) := by
  rw [fillF, if_neg h1, if_neg h2, if_neg (by simp)]
  rfl
def nameW (i : Nat) : List UInt8 := (nameT (i : Int)).1.toList
set_option maxRecDepth 20000 in
theorem words_same : ∀ i : Fin 15, 1 ≤ i.val → nameW i.val = (wordAt i.val).toList := by decide +kernel
set_option maxRecDepth 20000 in
theorem words_apart : ∀ i j : Fin 15, 1 ≤ i.val → 1 ≤ j.val → nameW i.val = nameW j.val → i = j := by decide +kernel
def resK (t : List ByteArray) (j : Nat) : Option OpV := if (fillF (nameT (j : Int)).2.data.toList (zeroOp (j : Int)) t).1 = true then some (fillF (nameT (j : Int)).2.data.toList (zeroOp (j : Int)) t).2 else none
theorem parseK_hit (x : ByteArray) (t : List ByteArray) (j : Nat) (hj : nameW j = x.toList) : ∀ f k, k ≤ j → j < k + f → (∀ i, k ≤ i → i < j → nameW i ≠ x.toList) → parseK (x :: t) f k = resK t j
  | 0, k, h1, h2, _ => by omega
  | f + 1, k, h1, h2, hd => by
    rw [parseK]
    by_cases h : k = j
    · subst h
      rw [if_pos ⟨by simp, hj.symm⟩]
      rfl
    · rw [if_neg (fun e => hd k (Nat.le_refl _) (by omega) e.2.symm)]
      exact parseK_hit x t j hj f (k + 1) (by omega) (by omega) (fun i h3 h4 => hd i (by omega) h4)
theorem parseK_miss (x : ByteArray) (t : List ByteArray) : ∀ f k, (∀ i, k ≤ i → i < k + f → nameW i ≠ x.toList) → parseK (x :: t) f k = none
  | 0, k, _ => rfl
  | f + 1, k, hd => by
    rw [parseK, if_neg (fun e => hd k (Nat.le_refl _) (by omega) e.2.symm)]
    exact parseK_miss x t f (k + 1) (fun i h3 h4 => hd i (by omega) (by omega))
theorem parseK_nil : ∀ f k, parseK [] f k = none
  | 0, k => rfl
  | f + 1, k => by
    rw [parseK, if_neg (fun e => e.1 rfl)]
    exact parseK_nil f (k + 1)
theorem refK_hit (x : ByteArray) (j : Nat) (h1 : 1 ≤ j) (hj : (wordAt j).toList = x.toList) : ∀ n, j < n → (∀ i, j < i → i < n → (wordAt i).toList ≠ x.toList) → refK x n = j
  | 0, h, _ => by omega
  | n + 1, h, hd => by
    rw [refK]
    by_cases e : n = j
    · subst e
      rw [if_pos ⟨h1, hj⟩]
    · rw [if_neg (fun e2 => hd n (by omega) (by omega) e2.2)]
      exact refK_hit x j h1 hj n (by omega) (fun i h3 h4 => hd i h3 (by omega))
theorem refK_miss (x : ByteArray) : ∀ n, (∀ i, 1 ≤ i → i < n → (wordAt i).toList ≠ x.toList) → refK x n = 0
  | 0, _ => rfl
  | n + 1, hd => by
    rw [refK, if_neg (fun e2 => hd n e2.1 (by omega) e2.2)]
    exact refK_miss x n (fun i h3 h4 => hd i h3 (by omega))
end Go.Proofs.YtfaelejeihmgcaaDoor.Stp
end

section
namespace Go.Proofs.YtfaelejeihmgcaaDoor.Wd
open Go.RowKit Go.Proofs.YtfaelejeihmgcaaDoorW.PrintWords Go.Proofs.YtfaelejeihmgcaaDoorW.PrintLast Go.Proofs.YtfaelejeihmgcaaDoorW.PrintMore
attribute [local go_sem] max2_int min2_int max_two min_two max_three min_three max_four min_four   -- for this text's walks alone
set_option linter.unusedVariables false
set_option linter.unusedSimpArgs false
mutual
def cachepotref1_Rune.j0 : Nat → ByteArray → Int → Int → Option (Int × Int)
  | 0, _, _, _ => none
  | k + 1, x0, x1, x6 => if x6 = 224 then (cachepotref1_Rune.j1 k x0 x1 x6 160 191) else (if x6 = 237 then (cachepotref1_Rune.j1 k x0 x1 x6 128 159) else (if x6 = 240 then (cachepotref1_Rune.j1 k x0 x1 x6 144 191) else (if x6 = 244 then (cachepotref1_Rune.j1 k x0 x1 x6 128 143) else (cachepotref1_Rune.j1 k x0 x1 x6 128 191))))
def cachepotref1_Rune.j1 : Nat → ByteArray → Int → Int → Int → Int → Option (Int × Int)
  | 0, _, _, _, _, _ => none
  | k + 1, x0, x1, x6, x7, x8 => if x6 ≥ 224 then (if x6 ≤ 239 then ((cachepotref1_follows.f x0 (wrap64 (x1 + 1)) x7 x8).bind fun t121 => (if t121 = true then ((cachepotref1_follows.f x0 (wrap64 (x1 + 2)) 128 191).bind fun t122 => (cachepotref1_Rune.j2 k x0 x1 x6 x7 x8 t122)) else (cachepotref1_Rune.j2 k x0 x1 x6 x7 x8 false))) else (cachepotref1_Rune.j2 k x0 x1 x6 x7 x8 false)) else (cachepotref1_Rune.j2 k x0 x1 x6 x7 x8 false)
def cachepotref1_Rune.j2 : Nat → ByteArray → Int → Int → Int → Int → Bool → Option (Int × Int)
  | 0, _, _, _, _, _, _ => none
  | k + 1, x0, x1, x6, x7, x8, x69 => if x69 = true then (if 0 ≤ (wrap64 (x1 + 1)) then (if (wrap64 (x1 + 1)) < (x0.size : Int) then (if 0 ≤ (wrap64 (x1 + 2)) then (if (wrap64 (x1 + 2)) < (x0.size : Int) then (some (wrap64 ((wrap64 ((wrap64 ((wrap64 (Go.bits .and .u8 x6 15)) * 4096)) + (wrap64 ((wrap64 (Go.bits .and .u8 (bt x0 (wrap64 (x1 + 1))) 63)) * 64)))) + (wrap64 (Go.bits .and .u8 (bt x0 (wrap64 (x1 + 2))) 63))), 3)) else (none)) else (none)) else (none)) else (none)) else (if x6 ≥ 240 then (if x6 ≤ 244 then ((cachepotref1_follows.f x0 (wrap64 (x1 + 1)) x7 x8).bind fun t123 => (if t123 = true then ((cachepotref1_follows.f x0 (wrap64 (x1 + 2)) 128 191).bind fun t124 => (if t124 = true then ((cachepotref1_follows.f x0 (wrap64 (x1 + 3)) 128 191).bind fun t125 => (if t125 = true then (if 0 ≤ (wrap64 (x1 + 1)) then (if (wrap64 (x1 + 1)) < (x0.size : Int) then (if 0 ≤ (wrap64 (x1 + 2)) then (if (wrap64 (x1 + 2)) < (x0.size : Int) then (if 0 ≤ (wrap64 (x1 + 3)) then (if (wrap64 (x1 + 3)) < (x0.size : Int) then (some (wrap64 ((wrap64 ((wrap64 ((wrap64 ((wrap64 (Go.bits .and .u8 x6 7)) * 262144)) + (wrap64 ((wrap64 (Go.bits .and .u8 (bt x0 (wrap64 (x1 + 1))) 63)) * 4096)))) + (wrap64 ((wrap64 (Go.bits .and .u8 (bt x0 (wrap64 (x1 + 2))) 63)) * 64)))) + (wrap64 (Go.bits .and .u8 (bt x0 (wrap64 (x1 + 3))) 63))), 4)) else (none)) else (none)) else (none)) else (none)) else (none)) else (none)) else (some (65533, 1)))) else (some (65533, 1)))) else (some (65533, 1)))) else (some (65533, 1))) else (some (65533, 1)))
end
def cachepotref1_Rune.f (k : Nat) (a0 : ByteArray) (a1 : Int) : Option (Int × Int) := if 0 ≤ a1 then (if a1 < (a0.size : Int) then (if (bt a0 a1) < 128 then (some (wrap64 (bt a0 a1), 1)) else (if (bt a0 a1) ≥ 194 then (if (bt a0 a1) ≤ 223 then ((cachepotref1_follows.f a0 (wrap64 (a1 + 1)) 128 191).bind fun t120 => (if t120 = true then (if 0 ≤ (wrap64 (a1 + 1)) then (if (wrap64 (a1 + 1)) < (a0.size : Int) then (some (wrap64 ((wrap64 ((wrap64 (Go.bits .and .u8 (bt a0 a1) 31)) * 64)) + (wrap64 (Go.bits .and .u8 (bt a0 (wrap64 (a1 + 1))) 63))), 2)) else (none)) else (none)) else (cachepotref1_Rune.j0 k a0 a1 (bt a0 a1)))) else (cachepotref1_Rune.j0 k a0 a1 (bt a0 a1))) else (cachepotref1_Rune.j0 k a0 a1 (bt a0 a1)))) else (none)) else (none)
set_option maxHeartbeats 8000000 in
set_option maxRecDepth 100000 in
theorem cachepotref1_Rune.calls (k : Nat) (a0 : ByteArray) (a1 : Int) (r1 : Int) (r2 : Int) (w : World) (h : cachepotref1_Rune.f k a0 a1 = some (r1, r2)) :
    Calls Tryd.prog 60 #[.string a0, .int .i64 a1] w fun e w' => e = .returned (.tuple #[.int .i64 r1, .int .i64 r2]) ∧ Drawn0 w w' := by
  have H : (if 0 ≤ a1 then (if a1 < (a0.size : Int) then (if (bt a0 a1) < 128 then (some (wrap64 (bt a0 a1), 1)) else (if (bt a0 a1) ≥ 194 then (if (bt a0 a1) ≤ 223 then ((cachepotref1_follows.f a0 (wrap64 (a1 + 1)) 128 191).bind fun t120 => (if t120 = true then (if 0 ≤ (wrap64 (a1 + 1)) then (if (wrap64 (a1 + 1)) < (a0.size : Int) then (some (wrap64 ((wrap64 ((wrap64 (Go.bits .and .u8 (bt a0 a1) 31)) * 64)) + (wrap64 (Go.bits .and .u8 (bt a0 (wrap64 (a1 + 1))) 63))), 2)) else (none)) else (none)) else (cachepotref1_Rune.j0 k a0 a1 (bt a0 a1)))) else (cachepotref1_Rune.j0 k a0 a1 (bt a0 a1))) else (cachepotref1_Rune.j0 k a0 a1 (bt a0 a1)))) else (none)) else (none)) = some (r1, r2) := h
  clear h
  by_cases c3 : 0 ≤ a1
  · rw [if_pos c3] at H
    have c3b0 : decide (0 ≤ a1) = true := decide_eq_true c3
    clear c3
    by_cases c4 : a1 < (a0.size : Int)
    · rw [if_pos c4] at H
      have c4b0 : decide (a1 < (a0.size : Int)) = true := decide_eq_true c4
      clear c4
      have HC6 := Aside0.mk H
      clear H
      have p5 : 0 ≤ (a1 : Int) := of_decide_eq_true (by first | (with_reducible assumption) | assumption)
      have q5 : a1 < (a0.size : Int) := of_decide_eq_true (by first | (with_reducible assumption) | assumption)
      have hx5 := bt_at a0 a1
      replace p5 := eq_true p5
      replace q5 := eq_true q5
      go_enter Tryd.func60, Tryd.ntmps60
      go_upto_block 0 with (fail)
      repeat (go_quiet (fail); go_upto_block 0 with (fail))
      go_cut [] (fun wc => ∃ (kq : Nat), Aside0 (cachepotref1_Rune.j0 kq a0 a1 (bt a0 a1) = some (r1, r2)) ∧ Aside0 (kq ≤ k) ∧ Drawn0 w wc)
      case first =>
        have H := HC6.out
        clear HC6
        by_cases c7 : (bt a0 a1) < 128
        · rw [if_pos c7] at H
          have c7b0 : decide ((bt a0 a1) < 128) = true := decide_eq_true c7
          clear c7
          (first | rw [c7b0] | (simp only [i64_w, i32_w]; rw [c7b0]) | skip)
          simp only [Option.some.injEq, Prod.mk.injEq] at H
          obtain ⟨rfl, rfl⟩ := H
          go_wp2
          repeat (go_quiet (fail); try go_wp2)
          go_ret2
          exact ⟨by first | rfl | (simp; done) | (simp [*]; done), by repeat (first | exact Drawn0.refl _ | apply Drawn0.step)⟩
        · rw [if_neg c7] at H
          have c7b0 : decide ((bt a0 a1) < 128) = false := decide_eq_false c7
          clear c7
          (first | rw [c7b0] | (simp only [i64_w, i32_w]; rw [c7b0]) | skip)
          by_cases c8 : (bt a0 a1) ≥ 194
          · rw [if_pos c8] at H
            have c8b0 : decide (194 ≤ (bt a0 a1)) = true := decide_eq_true c8
            clear c8
            by_cases c9 : (bt a0 a1) ≤ 223
            · rw [if_pos c9] at H
              have c9b0 : decide ((bt a0 a1) ≤ 223) = true := decide_eq_true c9
              clear c9
              replace H := Option.bind_eq_some_iff.mp H
              obtain ⟨t120, A100, H⟩ := H
              replace H : (if t120 = true then (if 0 ≤ (wrap64 (a1 + 1)) then (if (wrap64 (a1 + 1)) < (a0.size : Int) then (some (wrap64 ((wrap64 ((wrap64 (Go.bits .and .u8 (bt a0 a1) 31)) * 64)) + (wrap64 (Go.bits .and .u8 (bt a0 (wrap64 (a1 + 1))) 63))), 2)) else (none)) else (none)) else (cachepotref1_Rune.j0 k a0 a1 (bt a0 a1))) = some (r1, r2) := H
              have A10 := Aside0.mk A100
              clear A100
              by_cases c11 : t120 = true
              · subst c11
                have H1 : (if 0 ≤ (wrap64 (a1 + 1)) then (if (wrap64 (a1 + 1)) < (a0.size : Int) then (some (wrap64 ((wrap64 ((wrap64 (Go.bits .and .u8 (bt a0 a1) 31)) * 64)) + (wrap64 (Go.bits .and .u8 (bt a0 (wrap64 (a1 + 1))) 63))), 2)) else (none)) else (none)) = some (r1, r2) := by rw [if_pos rfl] at H; exact H
                clear H
                have H := H1
                clear H1
                obtain ⟨ji12, hji12⟩ : ∃ j_ : Int, (wrap64 (a1 + 1)) = j_ := ⟨_, rfl⟩
                replace H : (if 0 ≤ (ji12) then (if (ji12) < (a0.size : Int) then (some (wrap64 ((wrap64 ((wrap64 (Go.bits .and .u8 (bt a0 a1) 31)) * 64)) + (wrap64 (Go.bits .and .u8 (bt a0 (ji12)) 63))), 2)) else (none)) else (none)) = some (r1, r2) := by first | (rw [hji12] at H; exact H) | (simp only [hji12] at H ⊢; exact H)
                (try rw [hji12] at A10)
                have hji12w : (IntKind.i64.wrap (a1 + 1)) = ji12 := (i64_w _).trans hji12
                by_cases c13 : 0 ≤ (ji12)
                · rw [if_pos c13] at H
                  have c13b0 : decide (0 ≤ (ji12)) = true := decide_eq_true c13
                  clear c13
                  by_cases c14 : (ji12) < (a0.size : Int)
                  · rw [if_pos c14] at H
                    have c14b0 : decide ((ji12) < (a0.size : Int)) = true := decide_eq_true c14
                    clear c14
                    simp only [Option.some.injEq, Prod.mk.injEq] at H
                    obtain ⟨rfl, rfl⟩ := H
                    go_wp2_with (first | (go_at_call 95; (with_reducible refine (cachepotref1_follows.calls a0 ji12 128 191 true _ A10.out).mono ?_); rintro e w' ⟨rfl, ⟨nd, rfl⟩⟩; (try first | exact ⟨rfl, _, World.drewN_drewN _ _ _⟩ | exact ⟨rfl, _, Eq.trans (World.drewN_drewN _ _ _) (congrArg (World.drewN _) (Nat.add_assoc _ _ _))⟩); have p15 : 0 ≤ ((ji12) : Int) := of_decide_eq_true (by first | (with_reducible assumption) | assumption); have q15 : (ji12) < (a0.size : Int) := of_decide_eq_true (by first | (with_reducible assumption) | assumption); have hx15 := bt_at a0 (ji12); replace p15 := eq_true p15; replace q15 := eq_true q15))
                    repeat (go_quiet (first | (go_at_call 95; (with_reducible refine (cachepotref1_follows.calls a0 ji12 128 191 true _ A10.out).mono ?_); rintro e w' ⟨rfl, ⟨nd, rfl⟩⟩; (try first | exact ⟨rfl, _, World.drewN_drewN _ _ _⟩ | exact ⟨rfl, _, Eq.trans (World.drewN_drewN _ _ _) (congrArg (World.drewN _) (Nat.add_assoc _ _ _))⟩); have p15 : 0 ≤ ((ji12) : Int) := of_decide_eq_true (by first | (with_reducible assumption) | assumption); have q15 : (ji12) < (a0.size : Int) := of_decide_eq_true (by first | (with_reducible assumption) | assumption); have hx15 := bt_at a0 (ji12); replace p15 := eq_true p15; replace q15 := eq_true q15)); try go_wp2_with (first | (go_at_call 95; (with_reducible refine (cachepotref1_follows.calls a0 ji12 128 191 true _ A10.out).mono ?_); rintro e w' ⟨rfl, ⟨nd, rfl⟩⟩; (try first | exact ⟨rfl, _, World.drewN_drewN _ _ _⟩ | exact ⟨rfl, _, Eq.trans (World.drewN_drewN _ _ _) (congrArg (World.drewN _) (Nat.add_assoc _ _ _))⟩); have p15 : 0 ≤ ((ji12) : Int) := of_decide_eq_true (by first | (with_reducible assumption) | assumption); have q15 : (ji12) < (a0.size : Int) := of_decide_eq_true (by first | (with_reducible assumption) | assumption); have hx15 := bt_at a0 (ji12); replace p15 := eq_true p15; replace q15 := eq_true q15)))
                    go_ret2
                    exact ⟨by first | rfl | (simp; done) | (simp only [← hji12] <;> (first | rfl | simp)) | (simp [*]; done), by repeat (first | exact Drawn0.refl _ | apply Drawn0.step)⟩
                  · rw [if_neg c14] at H
                    exact absurd H (by simp)
                · rw [if_neg c13] at H
                  exact absurd H (by simp)
              · replace c11 := Bool.eq_false_iff.mpr c11
                subst c11
                have H1 : (cachepotref1_Rune.j0 k a0 a1 (bt a0 a1)) = some (r1, r2) := by rw [if_neg (show ¬ (false = true) by decide)] at H; exact H
                clear H
                have H := H1
                clear H1
                have H' := Aside0.mk H
                clear H
                go_wp2_with (first | (go_at_call 95; (with_reducible refine (cachepotref1_follows.calls a0 (wrap64 (a1 + 1)) 128 191 false _ A10.out).mono ?_); rintro e w' ⟨rfl, ⟨nd, rfl⟩⟩; (try first | exact ⟨rfl, _, World.drewN_drewN _ _ _⟩ | exact ⟨rfl, _, Eq.trans (World.drewN_drewN _ _ _) (congrArg (World.drewN _) (Nat.add_assoc _ _ _))⟩)))
                repeat (go_quiet (first | (go_at_call 95; (with_reducible refine (cachepotref1_follows.calls a0 (wrap64 (a1 + 1)) 128 191 false _ A10.out).mono ?_); rintro e w' ⟨rfl, ⟨nd, rfl⟩⟩; (try first | exact ⟨rfl, _, World.drewN_drewN _ _ _⟩ | exact ⟨rfl, _, Eq.trans (World.drewN_drewN _ _ _) (congrArg (World.drewN _) (Nat.add_assoc _ _ _))⟩))); try go_wp2_with (first | (go_at_call 95; (with_reducible refine (cachepotref1_follows.calls a0 (wrap64 (a1 + 1)) 128 191 false _ A10.out).mono ?_); rintro e w' ⟨rfl, ⟨nd, rfl⟩⟩; (try first | exact ⟨rfl, _, World.drewN_drewN _ _ _⟩ | exact ⟨rfl, _, Eq.trans (World.drewN_drewN _ _ _) (congrArg (World.drewN _) (Nat.add_assoc _ _ _))⟩))))
                go_meet
                case rel => exact ⟨_, H', ⟨by first | omega | exact Nat.le_refl _⟩, by repeat (first | exact Drawn0.refl _ | apply Drawn0.step)⟩
            · rw [if_neg c9] at H
              have c9b0 : decide ((bt a0 a1) ≤ 223) = false := decide_eq_false c9
              clear c9
              have H' := Aside0.mk H
              clear H
              go_wp2
              repeat (go_quiet (fail); try go_wp2)
              go_meet
              case rel => exact ⟨_, H', ⟨by first | omega | exact Nat.le_refl _⟩, by repeat (first | exact Drawn0.refl _ | apply Drawn0.step)⟩
          · rw [if_neg c8] at H
            have c8b0 : decide (194 ≤ (bt a0 a1)) = false := decide_eq_false c8
            clear c8
            have H' := Aside0.mk H
            clear H
            go_wp2
            repeat (go_quiet (fail); try go_wp2)
            go_meet
            case rel => exact ⟨_, H', ⟨by first | omega | exact Nat.le_refl _⟩, by repeat (first | exact Drawn0.refl _ | apply Drawn0.step)⟩
      case rest =>
        clear HC6
        try clear c1
        try clear p1
        try clear q1
        try clear hx1
        try clear p2
        try clear c3
        try clear c3b0
        try clear c4
        try clear c4b0
        try clear p5
        try clear q5
        try clear hx5
        try clear c6
        try clear p6
        try clear c7
        try clear c7b0
        try clear c8
        try clear c8b0
        try clear c9
        try clear c9b0
        try clear c11
        try clear c13
        try clear c13b0
        try clear c14
        try clear c14b0
        try clear p15
        try clear q15
        try clear hx15
        try clear p15
        try clear p5
        try clear q15
        try clear q5
        obtain ⟨kq, HA, HJ5, ⟨mc5, rfl⟩⟩ := hcut
        cases kq with
        | zero => exact absurd HA.out (by simp [cachepotref1_Rune.j0])
        | succ kj5 =>
          have H := HA.out
          clear HA
          simp only [cachepotref1_Rune.j0] at H
          have HC16 := Aside0.mk H
          clear H
          go_upto_block 1 with (fail)
          repeat (go_quiet (fail); go_upto_block 1 with (fail))
          go_cut [7, 8] (fun v7 v8 wc => ∃ (kq : Nat) (x7_15 : Int) (x8_15 : Int), v7 = .int .u8 x7_15 ∧ v8 = .int .u8 x8_15 ∧ Aside0 (cachepotref1_Rune.j1 kq a0 a1 (bt a0 a1) x7_15 x8_15 = some (r1, r2)) ∧ Aside0 (kq ≤ kj5) ∧ Drawn0 w wc)
          case first =>
            have H := HC16.out
            clear HC16
            by_cases c17 : (bt a0 a1) = 224
            · rw [if_pos c17] at H
              have c17b0 : ((bt a0 a1) == 224) = true := beq_iff_eq.mpr c17
              have c17b1 : ((bt a0 a1) != 224) = false := bne_eq_false_iff_eq.mpr c17
              clear c17
              (first | rw [c17b0] | (simp only [i64_w, i32_w]; rw [c17b0]) | skip)
              have H' := Aside0.mk H
              clear H
              go_wp2
              repeat (go_quiet (fail); try go_wp2)
              go_meet
              case rel => exact ⟨_, (160), (191), (by first | rfl | (simp; done) | (simp [*]; done)), (by first | rfl | (simp; done) | (simp [*]; done)), H', ⟨by have := HJ5.out; first | omega | exact Nat.le_refl _⟩, by repeat (first | exact Drawn0.refl _ | apply Drawn0.step)⟩
            · rw [if_neg c17] at H
              have c17b0 : ((bt a0 a1) == 224) = false := beq_eq_false_iff_ne.mpr c17
              have c17b1 : ((bt a0 a1) != 224) = true := bne_iff_ne.mpr c17
              (first | rw [c17b0] | (simp only [i64_w, i32_w]; rw [c17b0]) | skip)
              by_cases c18 : (bt a0 a1) = 237
              · rw [if_pos c18] at H
                have c18b0 : ((bt a0 a1) == 237) = true := beq_iff_eq.mpr c18
                have c18b1 : ((bt a0 a1) != 237) = false := bne_eq_false_iff_eq.mpr c18
                clear c18
                have H' := Aside0.mk H
                clear H
                go_wp2
                repeat (go_quiet (fail); try go_wp2)
                go_meet
                case rel => exact ⟨_, (128), (159), (by first | rfl | (simp; done) | (simp [*]; done)), (by first | rfl | (simp; done) | (simp [*]; done)), H', ⟨by have := HJ5.out; first | omega | exact Nat.le_refl _⟩, by repeat (first | exact Drawn0.refl _ | apply Drawn0.step)⟩
              · rw [if_neg c18] at H
                have c18b0 : ((bt a0 a1) == 237) = false := beq_eq_false_iff_ne.mpr c18
                have c18b1 : ((bt a0 a1) != 237) = true := bne_iff_ne.mpr c18
                by_cases c19 : (bt a0 a1) = 240
                · rw [if_pos c19] at H
                  have c19b0 : ((bt a0 a1) == 240) = true := beq_iff_eq.mpr c19
                  have c19b1 : ((bt a0 a1) != 240) = false := bne_eq_false_iff_eq.mpr c19
                  clear c19
                  have H' := Aside0.mk H
                  clear H
                  go_wp2
                  repeat (go_quiet (fail); try go_wp2)
                  go_meet
                  case rel => exact ⟨_, (144), (191), (by first | rfl | (simp; done) | (simp [*]; done)), (by first | rfl | (simp; done) | (simp [*]; done)), H', ⟨by have := HJ5.out; first | omega | exact Nat.le_refl _⟩, by repeat (first | exact Drawn0.refl _ | apply Drawn0.step)⟩
                · rw [if_neg c19] at H
                  have c19b0 : ((bt a0 a1) == 240) = false := beq_eq_false_iff_ne.mpr c19
                  have c19b1 : ((bt a0 a1) != 240) = true := bne_iff_ne.mpr c19
                  by_cases c20 : (bt a0 a1) = 244
                  · rw [if_pos c20] at H
                    have c20b0 : ((bt a0 a1) == 244) = true := beq_iff_eq.mpr c20
                    have c20b1 : ((bt a0 a1) != 244) = false := bne_eq_false_iff_eq.mpr c20
                    clear c20
                    have H' := Aside0.mk H
                    clear H
                    go_wp2
                    repeat (go_quiet (fail); try go_wp2)
                    go_meet
                    case rel => exact ⟨_, (128), (143), (by first | rfl | (simp; done) | (simp [*]; done)), (by first | rfl | (simp; done) | (simp [*]; done)), H', ⟨by have := HJ5.out; first | omega | exact Nat.le_refl _⟩, by repeat (first | exact Drawn0.refl _ | apply Drawn0.step)⟩
                  · rw [if_neg c20] at H
                    have c20b0 : ((bt a0 a1) == 244) = false := beq_eq_false_iff_ne.mpr c20
                    have c20b1 : ((bt a0 a1) != 244) = true := bne_iff_ne.mpr c20
                    have H' := Aside0.mk H
                    clear H
                    go_wp2
                    repeat (go_quiet (fail); try go_wp2)
                    go_meet
                    case rel => exact ⟨_, (128), (191), (by first | rfl | (simp; done) | (simp [*]; done)), (by first | rfl | (simp; done) | (simp [*]; done)), H', ⟨by have := HJ5.out; first | omega | exact Nat.le_refl _⟩, by repeat (first | exact Drawn0.refl _ | apply Drawn0.step)⟩
          case rest =>
            clear HC16
            try clear c1
            try clear p1
            try clear q1
            try clear hx1
            try clear c2
            try clear p2
            try clear c3
            try clear c3b0
            try clear c4
            try clear c4b0
            try clear c5
            try clear p5
            try clear q5
            try clear hx5
            try clear c6
            try clear p6
            try clear c7
            try clear c7b0
            try clear c8
            try clear c8b0
            try clear c9
            try clear c9b0
            try clear c11
            try clear c13
            try clear c13b0
            try clear c14
            try clear c14b0
            try clear p15
            try clear q15
            try clear hx15
            try clear c17
            try clear c17b0
            try clear c17b1
            try clear c18
            try clear c18b0
            try clear c18b1
            try clear c19
            try clear c19b0
            try clear c19b1
            try clear c20
            try clear c20b0
            try clear c20b1
            try clear p1
            try clear p15
            try clear p2
            try clear p5
            try clear p6
            try clear q1
            try clear q15
            try clear q5
            obtain ⟨kq, x7_15, x8_15, rfl, rfl, HA, HJ15, ⟨mc15, rfl⟩⟩ := hcut
            cases kq with
            | zero => exact absurd HA.out (by simp [cachepotref1_Rune.j1])
            | succ kj15 =>
              have H := HA.out
              clear HA
              simp only [cachepotref1_Rune.j1] at H
              have HC21 := Aside0.mk H
              clear H
              go_upto_region 16 with (fail)
              repeat (go_quiet (fail); go_upto_region 16 with (fail))
              go_cut [69] (fun v69 wc => ∃ (kq : Nat) (x69_20 : Bool), v69 = .bool x69_20 ∧ Aside0 (cachepotref1_Rune.j2 kq a0 a1 (bt a0 a1) x7_15 x8_15 x69_20 = some (r1, r2)) ∧ Aside0 (kq ≤ kj15) ∧ Drawn0 w wc)
              case first =>
                have H := HC21.out
                clear HC21
                by_cases c22 : (bt a0 a1) ≥ 224
                · rw [if_pos c22] at H
                  have c22b0 : decide (224 ≤ (bt a0 a1)) = true := decide_eq_true c22
                  clear c22
                  (first | rw [c22b0] | (simp only [i64_w, i32_w]; rw [c22b0]) | skip)
                  by_cases c23 : (bt a0 a1) ≤ 239
                  · rw [if_pos c23] at H
                    have c23b0 : decide ((bt a0 a1) ≤ 239) = true := decide_eq_true c23
                    clear c23
                    replace H := Option.bind_eq_some_iff.mp H
                    obtain ⟨t121, A240, H⟩ := H
                    replace H : (if t121 = true then ((cachepotref1_follows.f a0 (wrap64 (a1 + 2)) 128 191).bind fun t122 => (cachepotref1_Rune.j2 kj15 a0 a1 (bt a0 a1) x7_15 x8_15 t122)) else (cachepotref1_Rune.j2 kj15 a0 a1 (bt a0 a1) x7_15 x8_15 false)) = some (r1, r2) := H
                    have A24 := Aside0.mk A240
                    clear A240
                    by_cases c25 : t121 = true
                    · subst c25
                      have H1 : ((cachepotref1_follows.f a0 (wrap64 (a1 + 2)) 128 191).bind fun t122 => (cachepotref1_Rune.j2 kj15 a0 a1 (bt a0 a1) x7_15 x8_15 t122)) = some (r1, r2) := by rw [if_pos rfl] at H; exact H
                      clear H
                      have H := H1
                      clear H1
                      replace H := Option.bind_eq_some_iff.mp H
                      obtain ⟨t122, A260, H⟩ := H
                      replace H : (cachepotref1_Rune.j2 kj15 a0 a1 (bt a0 a1) x7_15 x8_15 t122) = some (r1, r2) := H
                      have A26 := Aside0.mk A260
                      clear A260
                      have H' := Aside0.mk H
                      clear H
                      go_wp2_with (first | (go_at_call 95; (with_reducible refine (cachepotref1_follows.calls a0 (wrap64 (a1 + 1)) x7_15 x8_15 true _ A24.out).mono ?_); rintro e w' ⟨rfl, ⟨nd, rfl⟩⟩; (try first | exact ⟨rfl, _, World.drewN_drewN _ _ _⟩ | exact ⟨rfl, _, Eq.trans (World.drewN_drewN _ _ _) (congrArg (World.drewN _) (Nat.add_assoc _ _ _))⟩)) | (go_at_call 95; (with_reducible refine (cachepotref1_follows.calls a0 (wrap64 (a1 + 2)) 128 191 t122 _ A26.out).mono ?_); rintro e w' ⟨rfl, ⟨nd, rfl⟩⟩; (try first | exact ⟨rfl, _, World.drewN_drewN _ _ _⟩ | exact ⟨rfl, _, Eq.trans (World.drewN_drewN _ _ _) (congrArg (World.drewN _) (Nat.add_assoc _ _ _))⟩)))
                      repeat (go_quiet (first | (go_at_call 95; (with_reducible refine (cachepotref1_follows.calls a0 (wrap64 (a1 + 1)) x7_15 x8_15 true _ A24.out).mono ?_); rintro e w' ⟨rfl, ⟨nd, rfl⟩⟩; (try first | exact ⟨rfl, _, World.drewN_drewN _ _ _⟩ | exact ⟨rfl, _, Eq.trans (World.drewN_drewN _ _ _) (congrArg (World.drewN _) (Nat.add_assoc _ _ _))⟩)) | (go_at_call 95; (with_reducible refine (cachepotref1_follows.calls a0 (wrap64 (a1 + 2)) 128 191 t122 _ A26.out).mono ?_); rintro e w' ⟨rfl, ⟨nd, rfl⟩⟩; (try first | exact ⟨rfl, _, World.drewN_drewN _ _ _⟩ | exact ⟨rfl, _, Eq.trans (World.drewN_drewN _ _ _) (congrArg (World.drewN _) (Nat.add_assoc _ _ _))⟩))); try go_wp2_with (first | (go_at_call 95; (with_reducible refine (cachepotref1_follows.calls a0 (wrap64 (a1 + 1)) x7_15 x8_15 true _ A24.out).mono ?_); rintro e w' ⟨rfl, ⟨nd, rfl⟩⟩; (try first | exact ⟨rfl, _, World.drewN_drewN _ _ _⟩ | exact ⟨rfl, _, Eq.trans (World.drewN_drewN _ _ _) (congrArg (World.drewN _) (Nat.add_assoc _ _ _))⟩)) | (go_at_call 95; (with_reducible refine (cachepotref1_follows.calls a0 (wrap64 (a1 + 2)) 128 191 t122 _ A26.out).mono ?_); rintro e w' ⟨rfl, ⟨nd, rfl⟩⟩; (try first | exact ⟨rfl, _, World.drewN_drewN _ _ _⟩ | exact ⟨rfl, _, Eq.trans (World.drewN_drewN _ _ _) (congrArg (World.drewN _) (Nat.add_assoc _ _ _))⟩))))
                      go_meet
                      case rel => exact ⟨_, (t122), (by first | rfl | (simp; done) | (simp [*]; done)), H', ⟨by have := HJ5.out; have := HJ15.out; first | omega | exact Nat.le_refl _⟩, by repeat (first | exact Drawn0.refl _ | apply Drawn0.step)⟩
                    · replace c25 := Bool.eq_false_iff.mpr c25
                      subst c25
                      have H1 : (cachepotref1_Rune.j2 kj15 a0 a1 (bt a0 a1) x7_15 x8_15 false) = some (r1, r2) := by rw [if_neg (show ¬ (false = true) by decide)] at H; exact H
                      clear H
                      have H := H1
                      clear H1
                      have H' := Aside0.mk H
                      clear H
                      go_wp2_with (first | (go_at_call 95; (with_reducible refine (cachepotref1_follows.calls a0 (wrap64 (a1 + 1)) x7_15 x8_15 false _ A24.out).mono ?_); rintro e w' ⟨rfl, ⟨nd, rfl⟩⟩; (try first | exact ⟨rfl, _, World.drewN_drewN _ _ _⟩ | exact ⟨rfl, _, Eq.trans (World.drewN_drewN _ _ _) (congrArg (World.drewN _) (Nat.add_assoc _ _ _))⟩)))
                      repeat (go_quiet (first | (go_at_call 95; (with_reducible refine (cachepotref1_follows.calls a0 (wrap64 (a1 + 1)) x7_15 x8_15 false _ A24.out).mono ?_); rintro e w' ⟨rfl, ⟨nd, rfl⟩⟩; (try first | exact ⟨rfl, _, World.drewN_drewN _ _ _⟩ | exact ⟨rfl, _, Eq.trans (World.drewN_drewN _ _ _) (congrArg (World.drewN _) (Nat.add_assoc _ _ _))⟩))); try go_wp2_with (first | (go_at_call 95; (with_reducible refine (cachepotref1_follows.calls a0 (wrap64 (a1 + 1)) x7_15 x8_15 false _ A24.out).mono ?_); rintro e w' ⟨rfl, ⟨nd, rfl⟩⟩; (try first | exact ⟨rfl, _, World.drewN_drewN _ _ _⟩ | exact ⟨rfl, _, Eq.trans (World.drewN_drewN _ _ _) (congrArg (World.drewN _) (Nat.add_assoc _ _ _))⟩))))
                      go_meet
                      case rel => exact ⟨_, (false), (by first | rfl | (simp; done) | (simp [*]; done)), H', ⟨by have := HJ5.out; have := HJ15.out; first | omega | exact Nat.le_refl _⟩, by repeat (first | exact Drawn0.refl _ | apply Drawn0.step)⟩
                  · rw [if_neg c23] at H
                    have c23b0 : decide ((bt a0 a1) ≤ 239) = false := decide_eq_false c23
                    clear c23
                    have H' := Aside0.mk H
                    clear H
                    go_wp2
                    repeat (go_quiet (fail); try go_wp2)
                    go_meet
                    case rel => exact ⟨_, (false), (by first | rfl | (simp; done) | (simp [*]; done)), H', ⟨by have := HJ5.out; have := HJ15.out; first | omega | exact Nat.le_refl _⟩, by repeat (first | exact Drawn0.refl _ | apply Drawn0.step)⟩
                · rw [if_neg c22] at H
                  have c22b0 : decide (224 ≤ (bt a0 a1)) = false := decide_eq_false c22
                  clear c22
                  (first | rw [c22b0] | (simp only [i64_w, i32_w]; rw [c22b0]) | skip)
                  have H' := Aside0.mk H
                  clear H
                  go_wp2
                  repeat (go_quiet (fail); try go_wp2)
                  go_meet
                  case rel => exact ⟨_, (false), (by first | rfl | (simp; done) | (simp [*]; done)), H', ⟨by have := HJ5.out; have := HJ15.out; first | omega | exact Nat.le_refl _⟩, by repeat (first | exact Drawn0.refl _ | apply Drawn0.step)⟩
              case rest =>
                clear HC21
                try clear c1
                try clear p1
                try clear q1
                try clear hx1
                try clear c2
                try clear p2
                try clear c3
                try clear c3b0
                try clear c4
                try clear c4b0
                try clear c5
                try clear p5
                try clear q5
                try clear hx5
                try clear c6
                try clear p6
                try clear c7
                try clear c7b0
                try clear c8
                try clear c8b0
                try clear c9
                try clear c9b0
                try clear c11
                try clear c13
                try clear c13b0
                try clear c14
                try clear c14b0
                try clear c15
                try clear p15
                try clear q15
                try clear hx15
                try clear c17
                try clear c17b0
                try clear c17b1
                try clear c18
                try clear c18b0
                try clear c18b1
                try clear c19
                try clear c19b0
                try clear c19b1
                try clear c20
                try clear c20b0
                try clear c20b1
                try clear c22
                try clear c22b0
                try clear c23
                try clear c23b0
                try clear c25
                try clear p1
                try clear p15
                try clear p2
                try clear p5
                try clear p6
                try clear q1
                try clear q15
                try clear q5
                obtain ⟨kq, x69_20, rfl, HA, HJ20, ⟨mc20, rfl⟩⟩ := hcut
                cases kq with
                | zero => exact absurd HA.out (by simp [cachepotref1_Rune.j2])
                | succ kj20 =>
                  have H := HA.out
                  clear HA
                  simp only [cachepotref1_Rune.j2] at H
                  by_cases c27 : x69_20 = true
                  · subst c27
                    have H1 : (if 0 ≤ (wrap64 (a1 + 1)) then (if (wrap64 (a1 + 1)) < (a0.size : Int) then (if 0 ≤ (wrap64 (a1 + 2)) then (if (wrap64 (a1 + 2)) < (a0.size : Int) then (some (wrap64 ((wrap64 ((wrap64 ((wrap64 (Go.bits .and .u8 (bt a0 a1) 15)) * 4096)) + (wrap64 ((wrap64 (Go.bits .and .u8 (bt a0 (wrap64 (a1 + 1))) 63)) * 64)))) + (wrap64 (Go.bits .and .u8 (bt a0 (wrap64 (a1 + 2))) 63))), 3)) else (none)) else (none)) else (none)) else (none)) = some (r1, r2) := by rw [if_pos rfl] at H; exact H
                    clear H
                    have H := H1
                    clear H1
                    obtain ⟨ji28, hji28⟩ : ∃ j_ : Int, (wrap64 (a1 + 1)) = j_ := ⟨_, rfl⟩
                    replace H : (if 0 ≤ (ji28) then (if (ji28) < (a0.size : Int) then (if 0 ≤ (wrap64 (a1 + 2)) then (if (wrap64 (a1 + 2)) < (a0.size : Int) then (some (wrap64 ((wrap64 ((wrap64 ((wrap64 (Go.bits .and .u8 (bt a0 a1) 15)) * 4096)) + (wrap64 ((wrap64 (Go.bits .and .u8 (bt a0 (ji28)) 63)) * 64)))) + (wrap64 (Go.bits .and .u8 (bt a0 (wrap64 (a1 + 2))) 63))), 3)) else (none)) else (none)) else (none)) else (none)) = some (r1, r2) := by first | (rw [hji28] at H; exact H) | (simp only [hji28] at H ⊢; exact H)
                    have hji28w : (IntKind.i64.wrap (a1 + 1)) = ji28 := (i64_w _).trans hji28
                    by_cases c29 : 0 ≤ (ji28)
                    · rw [if_pos c29] at H
                      have c29b0 : decide (0 ≤ (ji28)) = true := decide_eq_true c29
                      clear c29
                      by_cases c30 : (ji28) < (a0.size : Int)
                      · rw [if_pos c30] at H
                        have c30b0 : decide ((ji28) < (a0.size : Int)) = true := decide_eq_true c30
                        clear c30
                        obtain ⟨ji32, hji32⟩ : ∃ j_ : Int, (wrap64 (a1 + 2)) = j_ := ⟨_, rfl⟩
                        replace H : (if 0 ≤ (ji32) then (if (ji32) < (a0.size : Int) then (some (wrap64 ((wrap64 ((wrap64 ((wrap64 (Go.bits .and .u8 (bt a0 a1) 15)) * 4096)) + (wrap64 ((wrap64 (Go.bits .and .u8 (bt a0 (ji28)) 63)) * 64)))) + (wrap64 (Go.bits .and .u8 (bt a0 (ji32)) 63))), 3)) else (none)) else (none)) = some (r1, r2) := by first | (rw [hji32] at H; exact H) | (simp only [hji32] at H ⊢; exact H)
                        have hji32w : (IntKind.i64.wrap (a1 + 2)) = ji32 := (i64_w _).trans hji32
                        by_cases c33 : 0 ≤ (ji32)
                        · rw [if_pos c33] at H
                          have c33b0 : decide (0 ≤ (ji32)) = true := decide_eq_true c33
                          clear c33
                          by_cases c34 : (ji32) < (a0.size : Int)
                          · rw [if_pos c34] at H
                            have c34b0 : decide ((ji32) < (a0.size : Int)) = true := decide_eq_true c34
                            clear c34
                            simp only [Option.some.injEq, Prod.mk.injEq] at H
                            obtain ⟨rfl, rfl⟩ := H
                            have p31 : 0 ≤ ((ji28) : Int) := of_decide_eq_true (by first | (with_reducible assumption) | assumption)
                            have q31 : (ji28) < (a0.size : Int) := of_decide_eq_true (by first | (with_reducible assumption) | assumption)
                            have hx31 := bt_at a0 (ji28)
                            replace p31 := eq_true p31
                            replace q31 := eq_true q31
                            have p35 : 0 ≤ ((ji32) : Int) := of_decide_eq_true (by first | (with_reducible assumption) | assumption)
                            have q35 : (ji32) < (a0.size : Int) := of_decide_eq_true (by first | (with_reducible assumption) | assumption)
                            have hx35 := bt_at a0 (ji32)
                            replace p35 := eq_true p35
                            replace q35 := eq_true q35
                            go_wp2
                            repeat (go_quiet (fail); try go_wp2)
                            go_ret2
                            exact ⟨by first | rfl | (simp; done) | (simp only [← hji28, ← hji32] <;> (first | rfl | simp)) | (simp [*]; done), by repeat (first | exact Drawn0.refl _ | apply Drawn0.step)⟩
                          · rw [if_neg c34] at H
                            exact absurd H (by simp)
                        · rw [if_neg c33] at H
                          exact absurd H (by simp)
                      · rw [if_neg c30] at H
                        exact absurd H (by simp)
                    · rw [if_neg c29] at H
                      exact absurd H (by simp)
                  · replace c27 := Bool.eq_false_iff.mpr c27
                    subst c27
                    have H1 : (if (bt a0 a1) ≥ 240 then (if (bt a0 a1) ≤ 244 then ((cachepotref1_follows.f a0 (wrap64 (a1 + 1)) x7_15 x8_15).bind fun t123 => (if t123 = true then ((cachepotref1_follows.f a0 (wrap64 (a1 + 2)) 128 191).bind fun t124 => (if t124 = true then ((cachepotref1_follows.f a0 (wrap64 (a1 + 3)) 128 191).bind fun t125 => (if t125 = true then (if 0 ≤ (wrap64 (a1 + 1)) then (if (wrap64 (a1 + 1)) < (a0.size : Int) then (if 0 ≤ (wrap64 (a1 + 2)) then (if (wrap64 (a1 + 2)) < (a0.size : Int) then (if 0 ≤ (wrap64 (a1 + 3)) then (if (wrap64 (a1 + 3)) < (a0.size : Int) then (some (wrap64 ((wrap64 ((wrap64 ((wrap64 ((wrap64 (Go.bits .and .u8 (bt a0 a1) 7)) * 262144)) + (wrap64 ((wrap64 (Go.bits .and .u8 (bt a0 (wrap64 (a1 + 1))) 63)) * 4096)))) + (wrap64 ((wrap64 (Go.bits .and .u8 (bt a0 (wrap64 (a1 + 2))) 63)) * 64)))) + (wrap64 (Go.bits .and .u8 (bt a0 (wrap64 (a1 + 3))) 63))), 4)) else (none)) else (none)) else (none)) else (none)) else (none)) else (none)) else (some (65533, 1)))) else (some (65533, 1)))) else (some (65533, 1)))) else (some (65533, 1))) else (some (65533, 1))) = some (r1, r2) := by rw [if_neg (show ¬ (false = true) by decide)] at H; exact H
                    clear H
                    have H := H1
                    clear H1
                    by_cases c36 : (bt a0 a1) ≥ 240
                    · rw [if_pos c36] at H
                      have c36b0 : decide (240 ≤ (bt a0 a1)) = true := decide_eq_true c36
                      clear c36
                      by_cases c37 : (bt a0 a1) ≤ 244
                      · rw [if_pos c37] at H
                        have c37b0 : decide ((bt a0 a1) ≤ 244) = true := decide_eq_true c37
                        clear c37
                        replace H := Option.bind_eq_some_iff.mp H
                        obtain ⟨t123, A380, H⟩ := H
                        replace H : (if t123 = true then ((cachepotref1_follows.f a0 (wrap64 (a1 + 2)) 128 191).bind fun t124 => (if t124 = true then ((cachepotref1_follows.f a0 (wrap64 (a1 + 3)) 128 191).bind fun t125 => (if t125 = true then (if 0 ≤ (wrap64 (a1 + 1)) then (if (wrap64 (a1 + 1)) < (a0.size : Int) then (if 0 ≤ (wrap64 (a1 + 2)) then (if (wrap64 (a1 + 2)) < (a0.size : Int) then (if 0 ≤ (wrap64 (a1 + 3)) then (if (wrap64 (a1 + 3)) < (a0.size : Int) then (some (wrap64 ((wrap64 ((wrap64 ((wrap64 ((wrap64 (Go.bits .and .u8 (bt a0 a1) 7)) * 262144)) + (wrap64 ((wrap64 (Go.bits .and .u8 (bt a0 (wrap64 (a1 + 1))) 63)) * 4096)))) + (wrap64 ((wrap64 (Go.bits .and .u8 (bt a0 (wrap64 (a1 + 2))) 63)) * 64)))) + (wrap64 (Go.bits .and .u8 (bt a0 (wrap64 (a1 + 3))) 63))), 4)) else (none)) else (none)) else (none)) else (none)) else (none)) else (none)) else (some (65533, 1)))) else (some (65533, 1)))) else (some (65533, 1))) = some (r1, r2) := H
                        have A38 := Aside0.mk A380
                        clear A380
                        by_cases c39 : t123 = true
                        · subst c39
                          have H1 : ((cachepotref1_follows.f a0 (wrap64 (a1 + 2)) 128 191).bind fun t124 => (if t124 = true then ((cachepotref1_follows.f a0 (wrap64 (a1 + 3)) 128 191).bind fun t125 => (if t125 = true then (if 0 ≤ (wrap64 (a1 + 1)) then (if (wrap64 (a1 + 1)) < (a0.size : Int) then (if 0 ≤ (wrap64 (a1 + 2)) then (if (wrap64 (a1 + 2)) < (a0.size : Int) then (if 0 ≤ (wrap64 (a1 + 3)) then (if (wrap64 (a1 + 3)) < (a0.size : Int) then (some (wrap64 ((wrap64 ((wrap64 ((wrap64 ((wrap64 (Go.bits .and .u8 (bt a0 a1) 7)) * 262144)) + (wrap64 ((wrap64 (Go.bits .and .u8 (bt a0 (wrap64 (a1 + 1))) 63)) * 4096)))) + (wrap64 ((wrap64 (Go.bits .and .u8 (bt a0 (wrap64 (a1 + 2))) 63)) * 64)))) + (wrap64 (Go.bits .and .u8 (bt a0 (wrap64 (a1 + 3))) 63))), 4)) else (none)) else (none)) else (none)) else (none)) else (none)) else (none)) else (some (65533, 1)))) else (some (65533, 1)))) = some (r1, r2) := by rw [if_pos rfl] at H; exact H
                          clear H
                          have H := H1
                          clear H1
                          replace H := Option.bind_eq_some_iff.mp H
                          obtain ⟨t124, A400, H⟩ := H
                          replace H : (if t124 = true then ((cachepotref1_follows.f a0 (wrap64 (a1 + 3)) 128 191).bind fun t125 => (if t125 = true then (if 0 ≤ (wrap64 (a1 + 1)) then (if (wrap64 (a1 + 1)) < (a0.size : Int) then (if 0 ≤ (wrap64 (a1 + 2)) then (if (wrap64 (a1 + 2)) < (a0.size : Int) then (if 0 ≤ (wrap64 (a1 + 3)) then (if (wrap64 (a1 + 3)) < (a0.size : Int) then (some (wrap64 ((wrap64 ((wrap64 ((wrap64 ((wrap64 (Go.bits .and .u8 (bt a0 a1) 7)) * 262144)) + (wrap64 ((wrap64 (Go.bits .and .u8 (bt a0 (wrap64 (a1 + 1))) 63)) * 4096)))) + (wrap64 ((wrap64 (Go.bits .and .u8 (bt a0 (wrap64 (a1 + 2))) 63)) * 64)))) + (wrap64 (Go.bits .and .u8 (bt a0 (wrap64 (a1 + 3))) 63))), 4)) else (none)) else (none)) else (none)) else (none)) else (none)) else (none)) else (some (65533, 1)))) else (some (65533, 1))) = some (r1, r2) := H
                          have A40 := Aside0.mk A400
                          clear A400
                          by_cases c41 : t124 = true
                          · subst c41
                            have H1 : ((cachepotref1_follows.f a0 (wrap64 (a1 + 3)) 128 191).bind fun t125 => (if t125 = true then (if 0 ≤ (wrap64 (a1 + 1)) then (if (wrap64 (a1 + 1)) < (a0.size : Int) then (if 0 ≤ (wrap64 (a1 + 2)) then (if (wrap64 (a1 + 2)) < (a0.size : Int) then (if 0 ≤ (wrap64 (a1 + 3)) then (if (wrap64 (a1 + 3)) < (a0.size : Int) then (some (wrap64 ((wrap64 ((wrap64 ((wrap64 ((wrap64 (Go.bits .and .u8 (bt a0 a1) 7)) * 262144)) + (wrap64 ((wrap64 (Go.bits .and .u8 (bt a0 (wrap64 (a1 + 1))) 63)) * 4096)))) + (wrap64 ((wrap64 (Go.bits .and .u8 (bt a0 (wrap64 (a1 + 2))) 63)) * 64)))) + (wrap64 (Go.bits .and .u8 (bt a0 (wrap64 (a1 + 3))) 63))), 4)) else (none)) else (none)) else (none)) else (none)) else (none)) else (none)) else (some (65533, 1)))) = some (r1, r2) := by rw [if_pos rfl] at H; exact H
                            clear H
                            have H := H1
                            clear H1
                            replace H := Option.bind_eq_some_iff.mp H
                            obtain ⟨t125, A420, H⟩ := H
                            replace H : (if t125 = true then (if 0 ≤ (wrap64 (a1 + 1)) then (if (wrap64 (a1 + 1)) < (a0.size : Int) then (if 0 ≤ (wrap64 (a1 + 2)) then (if (wrap64 (a1 + 2)) < (a0.size : Int) then (if 0 ≤ (wrap64 (a1 + 3)) then (if (wrap64 (a1 + 3)) < (a0.size : Int) then (some (wrap64 ((wrap64 ((wrap64 ((wrap64 ((wrap64 (Go.bits .and .u8 (bt a0 a1) 7)) * 262144)) + (wrap64 ((wrap64 (Go.bits .and .u8 (bt a0 (wrap64 (a1 + 1))) 63)) * 4096)))) + (wrap64 ((wrap64 (Go.bits .and .u8 (bt a0 (wrap64 (a1 + 2))) 63)) * 64)))) + (wrap64 (Go.bits .and .u8 (bt a0 (wrap64 (a1 + 3))) 63))), 4)) else (none)) else (none)) else (none)) else (none)) else (none)) else (none)) else (some (65533, 1))) = some (r1, r2) := H
                            have A42 := Aside0.mk A420
                            clear A420
                            by_cases c43 : t125 = true
                            · subst c43
                              have H1 : (if 0 ≤ (wrap64 (a1 + 1)) then (if (wrap64 (a1 + 1)) < (a0.size : Int) then (if 0 ≤ (wrap64 (a1 + 2)) then (if (wrap64 (a1 + 2)) < (a0.size : Int) then (if 0 ≤ (wrap64 (a1 + 3)) then (if (wrap64 (a1 + 3)) < (a0.size : Int) then (some (wrap64 ((wrap64 ((wrap64 ((wrap64 ((wrap64 (Go.bits .and .u8 (bt a0 a1) 7)) * 262144)) + (wrap64 ((wrap64 (Go.bits .and .u8 (bt a0 (wrap64 (a1 + 1))) 63)) * 4096)))) + (wrap64 ((wrap64 (Go.bits .and .u8 (bt a0 (wrap64 (a1 + 2))) 63)) * 64)))) + (wrap64 (Go.bits .and .u8 (bt a0 (wrap64 (a1 + 3))) 63))), 4)) else (none)) else (none)) else (none)) else (none)) else (none)) else (none)) = some (r1, r2) := by rw [if_pos rfl] at H; exact H
                              clear H
                              have H := H1
                              clear H1
                              obtain ⟨ji44, hji44⟩ : ∃ j_ : Int, (wrap64 (a1 + 1)) = j_ := ⟨_, rfl⟩
                              replace H : (if 0 ≤ (ji44) then (if (ji44) < (a0.size : Int) then (if 0 ≤ (wrap64 (a1 + 2)) then (if (wrap64 (a1 + 2)) < (a0.size : Int) then (if 0 ≤ (wrap64 (a1 + 3)) then (if (wrap64 (a1 + 3)) < (a0.size : Int) then (some (wrap64 ((wrap64 ((wrap64 ((wrap64 ((wrap64 (Go.bits .and .u8 (bt a0 a1) 7)) * 262144)) + (wrap64 ((wrap64 (Go.bits .and .u8 (bt a0 (ji44)) 63)) * 4096)))) + (wrap64 ((wrap64 (Go.bits .and .u8 (bt a0 (wrap64 (a1 + 2))) 63)) * 64)))) + (wrap64 (Go.bits .and .u8 (bt a0 (wrap64 (a1 + 3))) 63))), 4)) else (none)) else (none)) else (none)) else (none)) else (none)) else (none)) = some (r1, r2) := by first | (rw [hji44] at H; exact H) | (simp only [hji44] at H ⊢; exact H)
                              (try rw [hji44] at A38)
                              (try rw [hji44] at A40)
                              (try rw [hji44] at A42)
                              have hji44w : (IntKind.i64.wrap (a1 + 1)) = ji44 := (i64_w _).trans hji44
                              by_cases c45 : 0 ≤ (ji44)
                              · rw [if_pos c45] at H
                                have c45b0 : decide (0 ≤ (ji44)) = true := decide_eq_true c45
                                clear c45
                                by_cases c46 : (ji44) < (a0.size : Int)
                                · rw [if_pos c46] at H
                                  have c46b0 : decide ((ji44) < (a0.size : Int)) = true := decide_eq_true c46
                                  clear c46
                                  obtain ⟨ji48, hji48⟩ : ∃ j_ : Int, (wrap64 (a1 + 2)) = j_ := ⟨_, rfl⟩
                                  replace H : (if 0 ≤ (ji48) then (if (ji48) < (a0.size : Int) then (if 0 ≤ (wrap64 (a1 + 3)) then (if (wrap64 (a1 + 3)) < (a0.size : Int) then (some (wrap64 ((wrap64 ((wrap64 ((wrap64 ((wrap64 (Go.bits .and .u8 (bt a0 a1) 7)) * 262144)) + (wrap64 ((wrap64 (Go.bits .and .u8 (bt a0 (ji44)) 63)) * 4096)))) + (wrap64 ((wrap64 (Go.bits .and .u8 (bt a0 (ji48)) 63)) * 64)))) + (wrap64 (Go.bits .and .u8 (bt a0 (wrap64 (a1 + 3))) 63))), 4)) else (none)) else (none)) else (none)) else (none)) = some (r1, r2) := by first | (rw [hji48] at H; exact H) | (simp only [hji48] at H ⊢; exact H)
                                  (try rw [hji48] at A38)
                                  (try rw [hji48] at A40)
                                  (try rw [hji48] at A42)
                                  have hji48w : (IntKind.i64.wrap (a1 + 2)) = ji48 := (i64_w _).trans hji48
                                  by_cases c49 : 0 ≤ (ji48)
                                  · rw [if_pos c49] at H
                                    have c49b0 : decide (0 ≤ (ji48)) = true := decide_eq_true c49
                                    clear c49
                                    by_cases c50 : (ji48) < (a0.size : Int)
                                    · rw [if_pos c50] at H
                                      have c50b0 : decide ((ji48) < (a0.size : Int)) = true := decide_eq_true c50
                                      clear c50
                                      obtain ⟨ji52, hji52⟩ : ∃ j_ : Int, (wrap64 (a1 + 3)) = j_ := ⟨_, rfl⟩
                                      replace H : (if 0 ≤ (ji52) then (if (ji52) < (a0.size : Int) then (some (wrap64 ((wrap64 ((wrap64 ((wrap64 ((wrap64 (Go.bits .and .u8 (bt a0 a1) 7)) * 262144)) + (wrap64 ((wrap64 (Go.bits .and .u8 (bt a0 (ji44)) 63)) * 4096)))) + (wrap64 ((wrap64 (Go.bits .and .u8 (bt a0 (ji48)) 63)) * 64)))) + (wrap64 (Go.bits .and .u8 (bt a0 (ji52)) 63))), 4)) else (none)) else (none)) = some (r1, r2) := by first | (rw [hji52] at H; exact H) | (simp only [hji52] at H ⊢; exact H)
                                      (try rw [hji52] at A38)
                                      (try rw [hji52] at A40)
                                      (try rw [hji52] at A42)
                                      have hji52w : (IntKind.i64.wrap (a1 + 3)) = ji52 := (i64_w _).trans hji52
                                      by_cases c53 : 0 ≤ (ji52)
                                      · rw [if_pos c53] at H
                                        have c53b0 : decide (0 ≤ (ji52)) = true := decide_eq_true c53
                                        clear c53
                                        by_cases c54 : (ji52) < (a0.size : Int)
                                        · rw [if_pos c54] at H
                                          have c54b0 : decide ((ji52) < (a0.size : Int)) = true := decide_eq_true c54
                                          clear c54
                                          simp only [Option.some.injEq, Prod.mk.injEq] at H
                                          obtain ⟨rfl, rfl⟩ := H
                                          go_wp2_with (first | (go_at_call 95; (with_reducible refine (cachepotref1_follows.calls a0 ji44 x7_15 x8_15 true _ A38.out).mono ?_); rintro e w' ⟨rfl, ⟨nd, rfl⟩⟩; (try first | exact ⟨rfl, _, World.drewN_drewN _ _ _⟩ | exact ⟨rfl, _, Eq.trans (World.drewN_drewN _ _ _) (congrArg (World.drewN _) (Nat.add_assoc _ _ _))⟩)) | (go_at_call 95; (with_reducible refine (cachepotref1_follows.calls a0 ji48 128 191 true _ A40.out).mono ?_); rintro e w' ⟨rfl, ⟨nd, rfl⟩⟩; (try first | exact ⟨rfl, _, World.drewN_drewN _ _ _⟩ | exact ⟨rfl, _, Eq.trans (World.drewN_drewN _ _ _) (congrArg (World.drewN _) (Nat.add_assoc _ _ _))⟩)) | (go_at_call 95; (with_reducible refine (cachepotref1_follows.calls a0 ji52 128 191 true _ A42.out).mono ?_); rintro e w' ⟨rfl, ⟨nd, rfl⟩⟩; (try first | exact ⟨rfl, _, World.drewN_drewN _ _ _⟩ | exact ⟨rfl, _, Eq.trans (World.drewN_drewN _ _ _) (congrArg (World.drewN _) (Nat.add_assoc _ _ _))⟩); have p47 : 0 ≤ ((ji44) : Int) := of_decide_eq_true (by first | (with_reducible assumption) | assumption); have q47 : (ji44) < (a0.size : Int) := of_decide_eq_true (by first | (with_reducible assumption) | assumption); have hx47 := bt_at a0 (ji44); replace p47 := eq_true p47; replace q47 := eq_true q47; have p51 : 0 ≤ ((ji48) : Int) := of_decide_eq_true (by first | (with_reducible assumption) | assumption); have q51 : (ji48) < (a0.size : Int) := of_decide_eq_true (by first | (with_reducible assumption) | assumption); have hx51 := bt_at a0 (ji48); replace p51 := eq_true p51; replace q51 := eq_true q51; have p55 : 0 ≤ ((ji52) : Int) := of_decide_eq_true (by first | (with_reducible assumption) | assumption); have q55 : (ji52) < (a0.size : Int) := of_decide_eq_true (by first | (with_reducible assumption) | assumption); have hx55 := bt_at a0 (ji52); replace p55 := eq_true p55; replace q55 := eq_true q55))
                                          repeat (go_quiet (first | (go_at_call 95; (with_reducible refine (cachepotref1_follows.calls a0 ji44 x7_15 x8_15 true _ A38.out).mono ?_); rintro e w' ⟨rfl, ⟨nd, rfl⟩⟩; (try first | exact ⟨rfl, _, World.drewN_drewN _ _ _⟩ | exact ⟨rfl, _, Eq.trans (World.drewN_drewN _ _ _) (congrArg (World.drewN _) (Nat.add_assoc _ _ _))⟩)) | (go_at_call 95; (with_reducible refine (cachepotref1_follows.calls a0 ji48 128 191 true _ A40.out).mono ?_); rintro e w' ⟨rfl, ⟨nd, rfl⟩⟩; (try first | exact ⟨rfl, _, World.drewN_drewN _ _ _⟩ | exact ⟨rfl, _, Eq.trans (World.drewN_drewN _ _ _) (congrArg (World.drewN _) (Nat.add_assoc _ _ _))⟩)) | (go_at_call 95; (with_reducible refine (cachepotref1_follows.calls a0 ji52 128 191 true _ A42.out).mono ?_); rintro e w' ⟨rfl, ⟨nd, rfl⟩⟩; (try first | exact ⟨rfl, _, World.drewN_drewN _ _ _⟩ | exact ⟨rfl, _, Eq.trans (World.drewN_drewN _ _ _) (congrArg (World.drewN _) (Nat.add_assoc _ _ _))⟩); have p47 : 0 ≤ ((ji44) : Int) := of_decide_eq_true (by first | (with_reducible assumption) | assumption); have q47 : (ji44) < (a0.size : Int) := of_decide_eq_true (by first | (with_reducible assumption) | assumption); have hx47 := bt_at a0 (ji44); replace p47 := eq_true p47; replace q47 := eq_true q47; have p51 : 0 ≤ ((ji48) : Int) := of_decide_eq_true (by first | (with_reducible assumption) | assumption); have q51 : (ji48) < (a0.size : Int) := of_decide_eq_true (by first | (with_reducible assumption) | assumption); have hx51 := bt_at a0 (ji48); replace p51 := eq_true p51; replace q51 := eq_true q51; have p55 : 0 ≤ ((ji52) : Int) := of_decide_eq_true (by first | (with_reducible assumption) | assumption); have q55 : (ji52) < (a0.size : Int) := of_decide_eq_true (by first | (with_reducible assumption) | assumption); have hx55 := bt_at a0 (ji52); replace p55 := eq_true p55; replace q55 := eq_true q55)); try go_wp2_with (first | (go_at_call 95; (with_reducible refine (cachepotref1_follows.calls a0 ji44 x7_15 x8_15 true _ A38.out).mono ?_); rintro e w' ⟨rfl, ⟨nd, rfl⟩⟩; (try first | exact ⟨rfl, _, World.drewN_drewN _ _ _⟩ | exact ⟨rfl, _, Eq.trans (World.drewN_drewN _ _ _) (congrArg (World.drewN _) (Nat.add_assoc _ _ _))⟩)) | (go_at_call 95; (with_reducible refine (cachepotref1_follows.calls a0 ji48 128 191 true _ A40.out).mono ?_); rintro e w' ⟨rfl, ⟨nd, rfl⟩⟩; (try first | exact ⟨rfl, _, World.drewN_drewN _ _ _⟩ | exact ⟨rfl, _, Eq.trans (World.drewN_drewN _ _ _) (congrArg (World.drewN _) (Nat.add_assoc _ _ _))⟩)) | (go_at_call 95; (with_reducible refine (cachepotref1_follows.calls a0 ji52 128 191 true _ A42.out).mono ?_); rintro e w' ⟨rfl, ⟨nd, rfl⟩⟩; (try first | exact ⟨rfl, _, World.drewN_drewN _ _ _⟩ | exact ⟨rfl, _, Eq.trans (World.drewN_drewN _ _ _) (congrArg (World.drewN _) (Nat.add_assoc _ _ _))⟩); have p47 : 0 ≤ ((ji44) : Int) := of_decide_eq_true (by first | (with_reducible assumption) | assumption); have q47 : (ji44) < (a0.size : Int) := of_decide_eq_true (by first | (with_reducible assumption) | assumption); have hx47 := bt_at a0 (ji44); replace p47 := eq_true p47; replace q47 := eq_true q47; have p51 : 0 ≤ ((ji48) : Int) := of_decide_eq_true (by first | (with_reducible assumption) | assumption); have q51 : (ji48) < (a0.size : Int) := of_decide_eq_true (by first | (with_reducible assumption) | assumption); have hx51 := bt_at a0 (ji48); replace p51 := eq_true p51; replace q51 := eq_true q51; have p55 : 0 ≤ ((ji52) : Int) := of_decide_eq_true (by first | (with_reducible assumption) | assumption); have q55 : (ji52) < (a0.size : Int) := of_decide_eq_true (by first | (with_reducible assumption) | assumption); have hx55 := bt_at a0 (ji52); replace p55 := eq_true p55; replace q55 := eq_true q55)))
                                          go_ret2
                                          exact ⟨by first | rfl | (simp; done) | (simp only [← hji44, ← hji48, ← hji52] <;> (first | rfl | simp)) | (simp [*]; done), by repeat (first | exact Drawn0.refl _ | apply Drawn0.step)⟩
                                        · rw [if_neg c54] at H
                                          exact absurd H (by simp)
                                      · rw [if_neg c53] at H
                                        exact absurd H (by simp)
                                    · rw [if_neg c50] at H
                                      exact absurd H (by simp)
                                  · rw [if_neg c49] at H
                                    exact absurd H (by simp)
                                · rw [if_neg c46] at H
                                  exact absurd H (by simp)
                              · rw [if_neg c45] at H
                                exact absurd H (by simp)
                            · replace c43 := Bool.eq_false_iff.mpr c43
                              subst c43
                              have H1 : (some (65533, 1)) = some (r1, r2) := by rw [if_neg (show ¬ (false = true) by decide)] at H; exact H
                              clear H
                              have H := H1
                              clear H1
                              simp only [Option.some.injEq, Prod.mk.injEq] at H
                              obtain ⟨rfl, rfl⟩ := H
                              go_wp2_with (first | (go_at_call 95; (with_reducible refine (cachepotref1_follows.calls a0 (wrap64 (a1 + 1)) x7_15 x8_15 true _ A38.out).mono ?_); rintro e w' ⟨rfl, ⟨nd, rfl⟩⟩; (try first | exact ⟨rfl, _, World.drewN_drewN _ _ _⟩ | exact ⟨rfl, _, Eq.trans (World.drewN_drewN _ _ _) (congrArg (World.drewN _) (Nat.add_assoc _ _ _))⟩)) | (go_at_call 95; (with_reducible refine (cachepotref1_follows.calls a0 (wrap64 (a1 + 2)) 128 191 true _ A40.out).mono ?_); rintro e w' ⟨rfl, ⟨nd, rfl⟩⟩; (try first | exact ⟨rfl, _, World.drewN_drewN _ _ _⟩ | exact ⟨rfl, _, Eq.trans (World.drewN_drewN _ _ _) (congrArg (World.drewN _) (Nat.add_assoc _ _ _))⟩)) | (go_at_call 95; (with_reducible refine (cachepotref1_follows.calls a0 (wrap64 (a1 + 3)) 128 191 false _ A42.out).mono ?_); rintro e w' ⟨rfl, ⟨nd, rfl⟩⟩; (try first | exact ⟨rfl, _, World.drewN_drewN _ _ _⟩ | exact ⟨rfl, _, Eq.trans (World.drewN_drewN _ _ _) (congrArg (World.drewN _) (Nat.add_assoc _ _ _))⟩)))
                              repeat (go_quiet (first | (go_at_call 95; (with_reducible refine (cachepotref1_follows.calls a0 (wrap64 (a1 + 1)) x7_15 x8_15 true _ A38.out).mono ?_); rintro e w' ⟨rfl, ⟨nd, rfl⟩⟩; (try first | exact ⟨rfl, _, World.drewN_drewN _ _ _⟩ | exact ⟨rfl, _, Eq.trans (World.drewN_drewN _ _ _) (congrArg (World.drewN _) (Nat.add_assoc _ _ _))⟩)) | (go_at_call 95; (with_reducible refine (cachepotref1_follows.calls a0 (wrap64 (a1 + 2)) 128 191 true _ A40.out).mono ?_); rintro e w' ⟨rfl, ⟨nd, rfl⟩⟩; (try first | exact ⟨rfl, _, World.drewN_drewN _ _ _⟩ | exact ⟨rfl, _, Eq.trans (World.drewN_drewN _ _ _) (congrArg (World.drewN _) (Nat.add_assoc _ _ _))⟩)) | (go_at_call 95; (with_reducible refine (cachepotref1_follows.calls a0 (wrap64 (a1 + 3)) 128 191 false _ A42.out).mono ?_); rintro e w' ⟨rfl, ⟨nd, rfl⟩⟩; (try first | exact ⟨rfl, _, World.drewN_drewN _ _ _⟩ | exact ⟨rfl, _, Eq.trans (World.drewN_drewN _ _ _) (congrArg (World.drewN _) (Nat.add_assoc _ _ _))⟩))); try go_wp2_with (first | (go_at_call 95; (with_reducible refine (cachepotref1_follows.calls a0 (wrap64 (a1 + 1)) x7_15 x8_15 true _ A38.out).mono ?_); rintro e w' ⟨rfl, ⟨nd, rfl⟩⟩; (try first | exact ⟨rfl, _, World.drewN_drewN _ _ _⟩ | exact ⟨rfl, _, Eq.trans (World.drewN_drewN _ _ _) (congrArg (World.drewN _) (Nat.add_assoc _ _ _))⟩)) | (go_at_call 95; (with_reducible refine (cachepotref1_follows.calls a0 (wrap64 (a1 + 2)) 128 191 true _ A40.out).mono ?_); rintro e w' ⟨rfl, ⟨nd, rfl⟩⟩; (try first | exact ⟨rfl, _, World.drewN_drewN _ _ _⟩ | exact ⟨rfl, _, Eq.trans (World.drewN_drewN _ _ _) (congrArg (World.drewN _) (Nat.add_assoc _ _ _))⟩)) | (go_at_call 95; (with_reducible refine (cachepotref1_follows.calls a0 (wrap64 (a1 + 3)) 128 191 false _ A42.out).mono ?_); rintro e w' ⟨rfl, ⟨nd, rfl⟩⟩; (try first | exact ⟨rfl, _, World.drewN_drewN _ _ _⟩ | exact ⟨rfl, _, Eq.trans (World.drewN_drewN _ _ _) (congrArg (World.drewN _) (Nat.add_assoc _ _ _))⟩))))
                              go_ret2
                              exact ⟨by first | rfl | (simp; done) | (simp [*]; done), by repeat (first | exact Drawn0.refl _ | apply Drawn0.step)⟩
                          · replace c41 := Bool.eq_false_iff.mpr c41
                            subst c41
                            have H1 : (some (65533, 1)) = some (r1, r2) := by rw [if_neg (show ¬ (false = true) by decide)] at H; exact H
                            clear H
                            have H := H1
                            clear H1
                            simp only [Option.some.injEq, Prod.mk.injEq] at H
                            obtain ⟨rfl, rfl⟩ := H
                            go_wp2_with (first | (go_at_call 95; (with_reducible refine (cachepotref1_follows.calls a0 (wrap64 (a1 + 1)) x7_15 x8_15 true _ A38.out).mono ?_); rintro e w' ⟨rfl, ⟨nd, rfl⟩⟩; (try first | exact ⟨rfl, _, World.drewN_drewN _ _ _⟩ | exact ⟨rfl, _, Eq.trans (World.drewN_drewN _ _ _) (congrArg (World.drewN _) (Nat.add_assoc _ _ _))⟩)) | (go_at_call 95; (with_reducible refine (cachepotref1_follows.calls a0 (wrap64 (a1 + 2)) 128 191 false _ A40.out).mono ?_); rintro e w' ⟨rfl, ⟨nd, rfl⟩⟩; (try first | exact ⟨rfl, _, World.drewN_drewN _ _ _⟩ | exact ⟨rfl, _, Eq.trans (World.drewN_drewN _ _ _) (congrArg (World.drewN _) (Nat.add_assoc _ _ _))⟩)))
                            repeat (go_quiet (first | (go_at_call 95; (with_reducible refine (cachepotref1_follows.calls a0 (wrap64 (a1 + 1)) x7_15 x8_15 true _ A38.out).mono ?_); rintro e w' ⟨rfl, ⟨nd, rfl⟩⟩; (try first | exact ⟨rfl, _, World.drewN_drewN _ _ _⟩ | exact ⟨rfl, _, Eq.trans (World.drewN_drewN _ _ _) (congrArg (World.drewN _) (Nat.add_assoc _ _ _))⟩)) | (go_at_call 95; (with_reducible refine (cachepotref1_follows.calls a0 (wrap64 (a1 + 2)) 128 191 false _ A40.out).mono ?_); rintro e w' ⟨rfl, ⟨nd, rfl⟩⟩; (try first | exact ⟨rfl, _, World.drewN_drewN _ _ _⟩ | exact ⟨rfl, _, Eq.trans (World.drewN_drewN _ _ _) (congrArg (World.drewN _) (Nat.add_assoc _ _ _))⟩))); try go_wp2_with (first | (go_at_call 95; (with_reducible refine (cachepotref1_follows.calls a0 (wrap64 (a1 + 1)) x7_15 x8_15 true _ A38.out).mono ?_); rintro e w' ⟨rfl, ⟨nd, rfl⟩⟩; (try first | exact ⟨rfl, _, World.drewN_drewN _ _ _⟩ | exact ⟨rfl, _, Eq.trans (World.drewN_drewN _ _ _) (congrArg (World.drewN _) (Nat.add_assoc _ _ _))⟩)) | (go_at_call 95; (with_reducible refine (cachepotref1_follows.calls a0 (wrap64 (a1 + 2)) 128 191 false _ A40.out).mono ?_); rintro e w' ⟨rfl, ⟨nd, rfl⟩⟩; (try first | exact ⟨rfl, _, World.drewN_drewN _ _ _⟩ | exact ⟨rfl, _, Eq.trans (World.drewN_drewN _ _ _) (congrArg (World.drewN _) (Nat.add_assoc _ _ _))⟩))))
                            go_ret2
                            exact ⟨by first | rfl | (simp; done) | (simp [*]; done), by repeat (first | exact Drawn0.refl _ | apply Drawn0.step)⟩
                        · replace c39 := Bool.eq_false_iff.mpr c39
                          subst c39
                          have H1 : (some (65533, 1)) = some (r1, r2) := by rw [if_neg (show ¬ (false = true) by decide)] at H; exact H
                          clear H
                          have H := H1
                          clear H1
                          simp only [Option.some.injEq, Prod.mk.injEq] at H
                          obtain ⟨rfl, rfl⟩ := H
                          go_wp2_with (first | (go_at_call 95; (with_reducible refine (cachepotref1_follows.calls a0 (wrap64 (a1 + 1)) x7_15 x8_15 false _ A38.out).mono ?_); rintro e w' ⟨rfl, ⟨nd, rfl⟩⟩; (try first | exact ⟨rfl, _, World.drewN_drewN _ _ _⟩ | exact ⟨rfl, _, Eq.trans (World.drewN_drewN _ _ _) (congrArg (World.drewN _) (Nat.add_assoc _ _ _))⟩)))
                          repeat (go_quiet (first | (go_at_call 95; (with_reducible refine (cachepotref1_follows.calls a0 (wrap64 (a1 + 1)) x7_15 x8_15 false _ A38.out).mono ?_); rintro e w' ⟨rfl, ⟨nd, rfl⟩⟩; (try first | exact ⟨rfl, _, World.drewN_drewN _ _ _⟩ | exact ⟨rfl, _, Eq.trans (World.drewN_drewN _ _ _) (congrArg (World.drewN _) (Nat.add_assoc _ _ _))⟩))); try go_wp2_with (first | (go_at_call 95; (with_reducible refine (cachepotref1_follows.calls a0 (wrap64 (a1 + 1)) x7_15 x8_15 false _ A38.out).mono ?_); rintro e w' ⟨rfl, ⟨nd, rfl⟩⟩; (try first | exact ⟨rfl, _, World.drewN_drewN _ _ _⟩ | exact ⟨rfl, _, Eq.trans (World.drewN_drewN _ _ _) (congrArg (World.drewN _) (Nat.add_assoc _ _ _))⟩))))
                          go_ret2
                          exact ⟨by first | rfl | (simp; done) | (simp [*]; done), by repeat (first | exact Drawn0.refl _ | apply Drawn0.step)⟩
                      · rw [if_neg c37] at H
                        have c37b0 : decide ((bt a0 a1) ≤ 244) = false := decide_eq_false c37
                        clear c37
                        simp only [Option.some.injEq, Prod.mk.injEq] at H
                        obtain ⟨rfl, rfl⟩ := H
                        go_wp2
                        repeat (go_quiet (fail); try go_wp2)
                        go_ret2
                        exact ⟨by first | rfl | (simp; done) | (simp [*]; done), by repeat (first | exact Drawn0.refl _ | apply Drawn0.step)⟩
                    · rw [if_neg c36] at H
                      have c36b0 : decide (240 ≤ (bt a0 a1)) = false := decide_eq_false c36
                      clear c36
                      simp only [Option.some.injEq, Prod.mk.injEq] at H
                      obtain ⟨rfl, rfl⟩ := H
                      go_wp2
                      repeat (go_quiet (fail); try go_wp2)
                      go_ret2
                      exact ⟨by first | rfl | (simp; done) | (simp [*]; done), by repeat (first | exact Drawn0.refl _ | apply Drawn0.step)⟩
    · rw [if_neg c4] at H
      exact absurd H (by simp)
  · rw [if_neg c3] at H
    exact absurd H (by simp)
def cachepotref1_Plain.f (a0 : Int) (a1 : Int) : Option (Bool) := if a0 ≥ 33 then (if a0 ≥ 127 then (if a0 ≤ 160 then (some false) else (if a0 = 65533 then (some (!(a1 == 1))) else (some (!false)))) else (if a0 = 65533 then (some (!(a1 == 1))) else (some (!false)))) else (some false)
set_option maxHeartbeats 8000000 in
set_option maxRecDepth 100000 in
theorem cachepotref1_Plain.calls (a0 : Int) (a1 : Int) (r : Bool) (w : World) (h : cachepotref1_Plain.f a0 a1 = some r) :
    Calls Tryd.prog 93 #[.int .i64 a0, .int .i64 a1] w fun e w' => e = .returned (.bool r) ∧ Drawn0 w w' := by
  have H : (if a0 ≥ 33 then (if a0 ≥ 127 then (if a0 ≤ 160 then (some false) else (if a0 = 65533 then (some (!(a1 == 1))) else (some (!false)))) else (if a0 = 65533 then (some (!(a1 == 1))) else (some (!false)))) else (some false)) = some r := h
  clear h
  by_cases c3 : a0 ≥ 33
  · rw [if_pos c3] at H
    have c3b0 : decide (33 ≤ a0) = true := decide_eq_true c3
    clear c3
    by_cases c4 : a0 ≥ 127
    · rw [if_pos c4] at H
      have c4b0 : decide (127 ≤ a0) = true := decide_eq_true c4
      clear c4
      by_cases c5 : a0 ≤ 160
      · rw [if_pos c5] at H
        have c5b0 : decide (a0 ≤ 160) = true := decide_eq_true c5
        clear c5
        obtain rfl := Option.some.inj H
        go_enter Tryd.func93, Tryd.ntmps93
        go_wp2
        go_ret
        exact ⟨by first | rfl | (simp; done) | (simp [*]; done), by repeat (first | exact Drawn0.refl _ | apply Drawn0.step)⟩
      · rw [if_neg c5] at H
        have c5b0 : decide (a0 ≤ 160) = false := decide_eq_false c5
        clear c5
        by_cases c6 : a0 = 65533
        · rw [if_pos c6] at H
          have c6b0 : (a0 == 65533) = true := beq_iff_eq.mpr c6
          have c6b1 : (a0 != 65533) = false := bne_eq_false_iff_eq.mpr c6
          clear c6
          obtain rfl := Option.some.inj H
          go_enter Tryd.func93, Tryd.ntmps93
          go_wp2
          go_ret
          exact ⟨by first | rfl | (simp; done) | (simp [*]; done), by repeat (first | exact Drawn0.refl _ | apply Drawn0.step)⟩
        · rw [if_neg c6] at H
          have c6b0 : (a0 == 65533) = false := beq_eq_false_iff_ne.mpr c6
          have c6b1 : (a0 != 65533) = true := bne_iff_ne.mpr c6
          obtain rfl := Option.some.inj H
          go_enter Tryd.func93, Tryd.ntmps93
          go_wp2
          go_ret
          exact ⟨by first | rfl | (simp; done) | (simp [*]; done), by repeat (first | exact Drawn0.refl _ | apply Drawn0.step)⟩
    · rw [if_neg c4] at H
      have c4b0 : decide (127 ≤ a0) = false := decide_eq_false c4
      clear c4
      by_cases c7 : a0 = 65533
      · rw [if_pos c7] at H
        have c7b0 : (a0 == 65533) = true := beq_iff_eq.mpr c7
        have c7b1 : (a0 != 65533) = false := bne_eq_false_iff_eq.mpr c7
        clear c7
        obtain rfl := Option.some.inj H
        go_enter Tryd.func93, Tryd.ntmps93
        go_wp2
        go_ret
        exact ⟨by first | rfl | (simp; done) | (simp [*]; done), by repeat (first | exact Drawn0.refl _ | apply Drawn0.step)⟩
      · rw [if_neg c7] at H
        have c7b0 : (a0 == 65533) = false := beq_eq_false_iff_ne.mpr c7
        have c7b1 : (a0 != 65533) = true := bne_iff_ne.mpr c7
        obtain rfl := Option.some.inj H
        go_enter Tryd.func93, Tryd.ntmps93
        go_wp2
        go_ret
        exact ⟨by first | rfl | (simp; done) | (simp [*]; done), by repeat (first | exact Drawn0.refl _ | apply Drawn0.step)⟩
  · rw [if_neg c3] at H
    have c3b0 : decide (33 ≤ a0) = false := decide_eq_false c3
    clear c3
    obtain rfl := Option.some.inj H
    go_enter Tryd.func93, Tryd.ntmps93
    go_wp2
    go_ret
    exact ⟨by first | rfl | (simp; done) | (simp [*]; done), by repeat (first | exact Drawn0.refl _ | apply Drawn0.step)⟩
def cachepotref3_plain.f (k : Nat) (a0 : ByteArray) (a1 : Int) : Option (Int) := (cachepotref1_Rune.f k a0 a1).bind fun bt126 => ((cachepotref1_Plain.f bt126.1 bt126.2).bind fun t128 => (if t128 = true then (if bt126.1 = 34 then (some 0) else (if bt126.1 = 92 then (some 0) else (some bt126.2))) else (some 0)))
set_option maxHeartbeats 8000000 in
set_option maxRecDepth 100000 in
theorem cachepotref3_plain.calls (k : Nat) (a0 : ByteArray) (a1 : Int) (r : Int) (w : World) (h : cachepotref3_plain.f k a0 a1 = some r) :
    Calls Tryd.prog 54 #[.string a0, .int .i64 a1] w fun e w' => e = .returned (.int .i64 r) ∧ Drawn0 w w' := by
  have H : ((cachepotref1_Rune.f k a0 a1).bind fun bt126 => ((cachepotref1_Plain.f bt126.1 bt126.2).bind fun t128 => (if t128 = true then (if bt126.1 = 34 then (some 0) else (if bt126.1 = 92 then (some 0) else (some bt126.2))) else (some 0)))) = some r := h
  clear h
  replace H := Option.bind_eq_some_iff.mp H
  obtain ⟨⟨t126, t127⟩, A30, H⟩ := H
  replace H : ((cachepotref1_Plain.f t126 t127).bind fun t128 => (if t128 = true then (if t126 = 34 then (some 0) else (if t126 = 92 then (some 0) else (some t127))) else (some 0))) = some r := H
  have A3 := Aside0.mk A30
  clear A30
  replace H := Option.bind_eq_some_iff.mp H
  obtain ⟨t128, A40, H⟩ := H
  replace H : (if t128 = true then (if t126 = 34 then (some 0) else (if t126 = 92 then (some 0) else (some t127))) else (some 0)) = some r := H
  have A4 := Aside0.mk A40
  clear A40
  by_cases c5 : t128 = true
  · subst c5
    have H1 : (if t126 = 34 then (some 0) else (if t126 = 92 then (some 0) else (some t127))) = some r := by rw [if_pos rfl] at H; exact H
    clear H
    have H := H1
    clear H1
    by_cases c6 : t126 = 34
    · rw [if_pos c6] at H
      have c6b0 : (t126 == 34) = true := beq_iff_eq.mpr c6
      have c6b1 : (t126 != 34) = false := bne_eq_false_iff_eq.mpr c6
      clear c6
      obtain rfl := Option.some.inj H
      go_enter Tryd.func54, Tryd.ntmps54
      go_wp2_with (first | ((with_reducible refine gate_callee (f := 60) rfl ?_); refine goesL_ (some 10) rfl rfl Tryd.func60 (by kernel_rfl) rfl #[.string a0, .int .i64 a1] rfl (by (try simp only [List.map_toArray, List.map_cons, List.map_nil]); first | done | rfl | (simp only [List.length_drop, List.length_take]; rfl)) ?_; (with_reducible refine (cachepotref1_Rune.calls k a0 a1 t126 t127 _ A3.out).mono ?_); rintro e w' ⟨rfl, ⟨nd, rfl⟩⟩; refine ⟨_, rfl, ?_⟩) | ((with_reducible refine gate_callee (f := 93) rfl ?_); refine goesL_ (some 15) rfl rfl Tryd.func93 (by kernel_rfl) rfl #[.int .i64 t126, .int .i64 t127] rfl (by (try simp only [List.map_toArray, List.map_cons, List.map_nil]); first | done | rfl | (simp only [List.length_drop, List.length_take]; rfl)) ?_; (with_reducible refine (cachepotref1_Plain.calls t126 t127 true _ A4.out).mono ?_); rintro e w' ⟨rfl, ⟨nd, rfl⟩⟩; refine ⟨_, rfl, ?_⟩))
      go_ret
      exact ⟨by first | rfl | (simp; done) | (simp [*]; done), by repeat (first | exact Drawn0.refl _ | apply Drawn0.step)⟩
    · rw [if_neg c6] at H
      have c6b0 : (t126 == 34) = false := beq_eq_false_iff_ne.mpr c6
      have c6b1 : (t126 != 34) = true := bne_iff_ne.mpr c6
      by_cases c7 : t126 = 92
      · rw [if_pos c7] at H
        have c7b0 : (t126 == 92) = true := beq_iff_eq.mpr c7
        have c7b1 : (t126 != 92) = false := bne_eq_false_iff_eq.mpr c7
        clear c7
        obtain rfl := Option.some.inj H
        go_enter Tryd.func54, Tryd.ntmps54
        go_wp2_with (first | ((with_reducible refine gate_callee (f := 60) rfl ?_); refine goesL_ (some 10) rfl rfl Tryd.func60 (by kernel_rfl) rfl #[.string a0, .int .i64 a1] rfl (by (try simp only [List.map_toArray, List.map_cons, List.map_nil]); first | done | rfl | (simp only [List.length_drop, List.length_take]; rfl)) ?_; (with_reducible refine (cachepotref1_Rune.calls k a0 a1 t126 t127 _ A3.out).mono ?_); rintro e w' ⟨rfl, ⟨nd, rfl⟩⟩; refine ⟨_, rfl, ?_⟩) | ((with_reducible refine gate_callee (f := 93) rfl ?_); refine goesL_ (some 15) rfl rfl Tryd.func93 (by kernel_rfl) rfl #[.int .i64 t126, .int .i64 t127] rfl (by (try simp only [List.map_toArray, List.map_cons, List.map_nil]); first | done | rfl | (simp only [List.length_drop, List.length_take]; rfl)) ?_; (with_reducible refine (cachepotref1_Plain.calls t126 t127 true _ A4.out).mono ?_); rintro e w' ⟨rfl, ⟨nd, rfl⟩⟩; refine ⟨_, rfl, ?_⟩))
        go_ret
        exact ⟨by first | rfl | (simp; done) | (simp [*]; done), by repeat (first | exact Drawn0.refl _ | apply Drawn0.step)⟩
      · rw [if_neg c7] at H
        have c7b0 : (t126 == 92) = false := beq_eq_false_iff_ne.mpr c7
        have c7b1 : (t126 != 92) = true := bne_iff_ne.mpr c7
        obtain rfl := Option.some.inj H
        go_enter Tryd.func54, Tryd.ntmps54
        go_wp2_with (first | ((with_reducible refine gate_callee (f := 60) rfl ?_); refine goesL_ (some 10) rfl rfl Tryd.func60 (by kernel_rfl) rfl #[.string a0, .int .i64 a1] rfl (by (try simp only [List.map_toArray, List.map_cons, List.map_nil]); first | done | rfl | (simp only [List.length_drop, List.length_take]; rfl)) ?_; (with_reducible refine (cachepotref1_Rune.calls k a0 a1 t126 t127 _ A3.out).mono ?_); rintro e w' ⟨rfl, ⟨nd, rfl⟩⟩; refine ⟨_, rfl, ?_⟩) | ((with_reducible refine gate_callee (f := 93) rfl ?_); refine goesL_ (some 15) rfl rfl Tryd.func93 (by kernel_rfl) rfl #[.int .i64 t126, .int .i64 t127] rfl (by (try simp only [List.map_toArray, List.map_cons, List.map_nil]); first | done | rfl | (simp only [List.length_drop, List.length_take]; rfl)) ?_; (with_reducible refine (cachepotref1_Plain.calls t126 t127 true _ A4.out).mono ?_); rintro e w' ⟨rfl, ⟨nd, rfl⟩⟩; refine ⟨_, rfl, ?_⟩))
        go_ret
        exact ⟨by first | rfl | (simp; done) | (simp [*]; done), by repeat (first | exact Drawn0.refl _ | apply Drawn0.step)⟩
  · replace c5 := Bool.eq_false_iff.mpr c5
    subst c5
    have H1 : (some 0) = some r := by rw [if_neg (show ¬ (false = true) by decide)] at H; exact H
    clear H
    have H := H1
    clear H1
    obtain rfl := Option.some.inj H
    go_enter Tryd.func54, Tryd.ntmps54
    go_wp2_with (first | ((with_reducible refine gate_callee (f := 60) rfl ?_); refine goesL_ (some 10) rfl rfl Tryd.func60 (by kernel_rfl) rfl #[.string a0, .int .i64 a1] rfl (by (try simp only [List.map_toArray, List.map_cons, List.map_nil]); first | done | rfl | (simp only [List.length_drop, List.length_take]; rfl)) ?_; (with_reducible refine (cachepotref1_Rune.calls k a0 a1 t126 t127 _ A3.out).mono ?_); rintro e w' ⟨rfl, ⟨nd, rfl⟩⟩; refine ⟨_, rfl, ?_⟩) | ((with_reducible refine gate_callee (f := 93) rfl ?_); refine goesL_ (some 15) rfl rfl Tryd.func93 (by kernel_rfl) rfl #[.int .i64 t126, .int .i64 t127] rfl (by (try simp only [List.map_toArray, List.map_cons, List.map_nil]); first | done | rfl | (simp only [List.length_drop, List.length_take]; rfl)) ?_; (with_reducible refine (cachepotref1_Plain.calls t126 t127 false _ A4.out).mono ?_); rintro e w' ⟨rfl, ⟨nd, rfl⟩⟩; refine ⟨_, rfl, ?_⟩))
    go_ret
    exact ⟨by first | rfl | (simp; done) | (simp [*]; done), by repeat (first | exact Drawn0.refl _ | apply Drawn0.step)⟩
end Go.Proofs.YtfaelejeihmgcaaDoor.Wd
end

section
namespace Go.Proofs.YtfaelejeihmgcaaDoor.Wd
open Go.RowKit Go.Proofs.YtfaelejeihmgcaaDoorW.PrintWords Go.Proofs.YtfaelejeihmgcaaDoorW.PrintLast Go.Proofs.YtfaelejeihmgcaaDoorW.PrintMore
attribute [local go_sem] max2_int min2_int max_two min_two max_three min_three max_four min_four   -- for this text's walks alone
set_option linter.unusedVariables false
set_option linter.unusedSimpArgs false
def cachepotref3_hex.j0 : Nat → Int → Bool → Option (Int)
  | 0, _, _ => none
  | k + 1, x0, x3 => if x3 = true then (some ((x0 - 48) % 256)) else (if x0 ≥ 97 then (if x0 ≤ 102 then (some (((x0 - 97) % 256) + 10)) else (some (-1))) else (some (-1)))
def cachepotref3_hex.f (k : Nat) (a0 : Int) : Option (Int) := if a0 ≥ 48 then (cachepotref3_hex.j0 k a0 (decide (a0 ≤ 57))) else (cachepotref3_hex.j0 k a0 false)
set_option maxHeartbeats 8000000 in
set_option maxRecDepth 100000 in
theorem cachepotref3_hex.calls (k : Nat) (a0 : Int) (r : Int) (w : World) (h : cachepotref3_hex.f k a0 = some r) :
    Calls Tryd.prog 92 #[.int .u8 a0] w fun e w' => e = .returned (.int .i64 r) ∧ Drawn0 w w' := by
  have H : (if a0 ≥ 48 then (cachepotref3_hex.j0 k a0 (decide (a0 ≤ 57))) else (cachepotref3_hex.j0 k a0 false)) = some r := h
  clear h
  have HC2 := Aside0.mk H
  clear H
  go_enter Tryd.func92, Tryd.ntmps92
  go_upto_region 1 with (fail)
  go_cut [3] (fun v3 wc => ∃ (kq : Nat) (x3_1 : Bool), v3 = .bool x3_1 ∧ Aside0 (cachepotref3_hex.j0 kq a0 x3_1 = some r) ∧ Aside0 (kq ≤ k) ∧ Drawn0 w wc)
  case first =>
    have H := HC2.out
    clear HC2
    by_cases c3 : a0 ≥ 48
    · rw [if_pos c3] at H
      have c3b0 : decide (48 ≤ a0) = true := decide_eq_true c3
      clear c3
      (first | rw [c3b0] | (simp only [i64_w, i32_w]; rw [c3b0]) | skip)
      have H' := Aside0.mk H
      clear H
      go_wp2
      go_meet
      case rel => exact ⟨_, (decide (a0 ≤ 57)), (by first | rfl | (simp; done) | (simp [*]; done)), H', ⟨by first | omega | exact Nat.le_refl _⟩, by repeat (first | exact Drawn0.refl _ | apply Drawn0.step)⟩
    · rw [if_neg c3] at H
      have c3b0 : decide (48 ≤ a0) = false := decide_eq_false c3
      clear c3
      (first | rw [c3b0] | (simp only [i64_w, i32_w]; rw [c3b0]) | skip)
      have H' := Aside0.mk H
      clear H
      go_wp2
      go_meet
      case rel => exact ⟨_, (false), (by first | rfl | (simp; done) | (simp [*]; done)), H', ⟨by first | omega | exact Nat.le_refl _⟩, by repeat (first | exact Drawn0.refl _ | apply Drawn0.step)⟩
  case rest =>
    clear HC2
    try clear p2
    try clear c3
    try clear c3b0
    obtain ⟨kq, x3_1, rfl, HA, HJ1, ⟨mc1, rfl⟩⟩ := hcut
    cases kq with
    | zero => exact absurd HA.out (by simp [cachepotref3_hex.j0])
    | succ kj1 =>
      have H := HA.out
      clear HA
      simp only [cachepotref3_hex.j0] at H
      by_cases c4 : x3_1 = true
      · subst c4
        have H1 : (some ((a0 - 48) % 256)) = some r := by rw [if_pos rfl] at H; exact H
        clear H
        have H := H1
        clear H1
        obtain rfl := Option.some.inj H
        go_wp2
        go_ret
        exact ⟨by first | rfl | (simp; done) | (simp [*]; done), by repeat (first | exact Drawn0.refl _ | apply Drawn0.step)⟩
      · replace c4 := Bool.eq_false_iff.mpr c4
        subst c4
        have H1 : (if a0 ≥ 97 then (if a0 ≤ 102 then (some (((a0 - 97) % 256) + 10)) else (some (-1))) else (some (-1))) = some r := by rw [if_neg (show ¬ (false = true) by decide)] at H; exact H
        clear H
        have H := H1
        clear H1
        by_cases c5 : a0 ≥ 97
        · rw [if_pos c5] at H
          have c5b0 : decide (97 ≤ a0) = true := decide_eq_true c5
          clear c5
          by_cases c6 : a0 ≤ 102
          · rw [if_pos c6] at H
            have c6b0 : decide (a0 ≤ 102) = true := decide_eq_true c6
            clear c6
            obtain rfl := Option.some.inj H
            go_wp2
            go_ret
            exact ⟨by first | rfl | (simp; done) | (simp [*]; done), by repeat (first | exact Drawn0.refl _ | apply Drawn0.step)⟩
          · rw [if_neg c6] at H
            have c6b0 : decide (a0 ≤ 102) = false := decide_eq_false c6
            clear c6
            obtain rfl := Option.some.inj H
            go_wp2
            go_ret
            exact ⟨by first | rfl | (simp; done) | (simp [*]; done), by repeat (first | exact Drawn0.refl _ | apply Drawn0.step)⟩
        · rw [if_neg c5] at H
          have c5b0 : decide (97 ≤ a0) = false := decide_eq_false c5
          clear c5
          obtain rfl := Option.some.inj H
          go_wp2
          go_ret
          exact ⟨by first | rfl | (simp; done) | (simp [*]; done), by repeat (first | exact Drawn0.refl _ | apply Drawn0.step)⟩
end Go.Proofs.YtfaelejeihmgcaaDoor.Wd
end
