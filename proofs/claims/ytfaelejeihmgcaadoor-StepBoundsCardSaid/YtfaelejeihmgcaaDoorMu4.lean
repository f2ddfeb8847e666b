/-
  Texts of mine, and texts that print.sh and pp.py wrote, merged and cut to what is used: PureBk, HandPe, HandBk, PureBd, HandBd
-/
import Derived.Test.YtfaelejeihmgcaaDoorProg
import Derived.Below
import Derived.Shelf.Unicode.DecodeSlow
import Derived.Lib.ItoaMem
import Derived.Lib.LaidTab
import Derived.Test.YtfaelejeihmgcaaDoorCards
import Derived.Test.YtfaelejeihmgcaaDoorTie
import Derived.Lib.LaidU8T
import Derived.PinnedBridge
import Derived.LaidMore
import Derived.Lay
import Derived.ProofKit
import Derived.OpenShut
import Derived.SevenTiedAt
import Derived.Stop.Joined
import Derived.Deep.DeepHandedRow
import Derived.Deep.Draws
import Derived.Deep.AppendLies
import Derived.Maps.AppendAt
import Derived.OwnWalk
import Derived.Laws.BytesArg
import Derived.Laws.MakeOwn
import Derived.Laws.OwnMore
import Derived.Deep.OwnRows
import Derived.Tactics
import Derived.Lib.ConvBytes
import Derived.Laws.Slices
import Derived.WalkKit
import Derived.KernelRfl
import Derived.RowKit3
import Derived.Deep.LoopGhost
import Derived.Deep.QuietTactic
import Derived.BigQuiet
import Derived.WideLaws
import Derived.Deep.DeepCutAuto
import Derived.Deep.CutBlock
import Derived.Deep.RegionHeld3
import Derived.Laws.Rows
import Derived.Lib.AppendStr
import Derived.ArgAppend
import Derived.Laws.IdiomCopy
import Derived.RowKit
import Derived.Test.YtfaelejeihmgcaaDoorRows
import Derived.ChangeArms
import Derived.DataReads
import Derived.DataElems
import Derived.Shelf.Strings.Builder1
import Derived.Shelf.Strings.Builder2
import Derived.Shelf.Strings.OnBuilder
import Derived.Shelf.Strings.BuilderF
import Derived.Shelf.Strings.BuilderK
import Derived.Shelf.Strings.Builder2Cap
import Derived.Shelf.Strconv.Atoi
import Derived.Shelf.Strconv.Itoa0
import Derived.Shelf.Strconv.Itoa1
import Derived.Shelf.LaysM
import Derived.Shelf.Strconv.Itoa2
import Derived.Shelf.Strconv.Itoa3
import Derived.Shelf.Strconv.AtoiErrFast
import Derived.Shelf.Strconv.ParseIntEmpty
import Derived.Shelf.Strconv.AtoiFail
import Derived.Shelf.Strconv.Clone
import Derived.Shelf.Strconv.SyntaxError
import Derived.Shelf.LaysC
import Derived.Shelf.Strconv.ToError
import Derived.Shelf.Strconv.Lower
import Derived.Shelf.Strconv.ParseUint10
import Derived.Shelf.Strconv.ParseUint10Empty
import Derived.Shelf.Strconv.ParseUint10Any
import Derived.Shelf.Strconv.ParseInt10
import Derived.Shelf.Strconv.AtoiLong
import Derived.Shelf.Strconv.AtoiInnerAll
import Derived.Shelf.Strconv.RangeError
import Derived.Shelf.Strconv.ToErrorRange
import Derived.Shelf.Strconv.AtoiAll
import Derived.Shelf.Strconv.ErrVarAll
import Derived.Shelf.Strconv.ParseUintEmpty
import Derived.Shelf.Strconv.ParseUint10b64
import Derived.Shelf.Strconv.ParseUint10b32
import Derived.Shelf.Strconv.ParseUint10b16
import Derived.Shelf.Strconv.ParseUint10b8
import Derived.Shelf.Strings.Prefix
import Derived.Shelf.Unicode.Decode
import Derived.Shelf.Unicode.DecodeAny
import Derived.Lib.AppendIntMem
import Derived.FnData
import Derived.Outline
import Derived.Tactics2
import Derived.OrdersHeld
import Derived.Laws.BitsLemmas
import Derived.Laws.StructEq
import Derived.Lib.AtoiTie
import Derived.Lib.Strings
import Derived.Lib.Slices
import Derived.Lib.Walk
import Derived.Lib.Builder
import Derived.Lib.UnsafeStr
import Derived.Laws.Externs
import Derived.Lib.DecodeNEq
import Derived.Lib.OthersKept
import Derived.Lib.Hide
import Derived.BigCall
import Derived.StillTailTactics
import Derived.BigRegion
import Derived.RegionTactic
import Derived.IntWalk
import Derived.WalkSpells
import Derived.Laws.Pointers
import Derived.Deep.RegionWith
import Derived.Test.YtfaelejeihmgcaaDoorMu0
import Derived.Test.YtfaelejeihmgcaaDoorMu1
import Derived.Test.YtfaelejeihmgcaaDoorMu2
import Derived.Test.YtfaelejeihmgcaaDoorMu3

section
namespace Go.Proofs.YtfaelejeihmgcaaDoor.Stp
open Go.RowKit Go.Proofs.YtfaelejeihmgcaaDoorW.PrintWords
theorem dec_ne (u : Nat) : (Lib.decDigits u).length ≠ 0 := by
  have := Lib.decDigits_length u
  have := Lib.nDigits_pos u
  omega
theorem numT_itoa (v : Int) (h : fitsB 77 v = true) : numT (itoaB v) = (v, true) := by
  have hv := (fits_77t v).1 h
  have h10 : (1000000 : Nat) < 10 ^ 7 := by decide
  have hd : (itoaB v).data.toList = Lib.itoa v := rfl
  unfold numT
  rw [hd]
  unfold Lib.itoa
  by_cases hn : v < 0
  · rw [if_pos hn]
    have h0 := dec_ne v.natAbs
    have h7 := dec_short 6 v.natAbs (by omega)
    have hh := digits_head v.natAbs (by omega)
    rw [if_pos (show (45 :: Lib.decDigits v.natAbs).head? = some 45 from rfl), List.tail_cons, numNeg, if_neg (by rintro (h | h | h); exact h0 h; omega; exact hh h)]
    have := numG_dec true (Lib.decDigits v.natAbs) 0
    rw [dec_of_digits] at this
    rw [show (0 : Int) = ((0 : Nat) : Int) from rfl, this]
    have e : sg true v.natAbs = v := by unfold sg; rw [if_pos rfl]; omega
    simp only [e, h]
  · rw [if_neg hn]
    have h0 := dec_ne v.toNat
    have h7 := dec_short 6 v.toNat (by omega)
    have hne : (Lib.decDigits v.toNat).head? ≠ some 45 := by
      have h1 := dec_of_digits v.toNat
      cases hl : Lib.decDigits v.toNat with
      | nil => rw [hl] at h0; exact absurd rfl h0
      | cons c r =>
        rw [hl] at h1
        have := (no_sign h1).1
        intro hh
        exact this (Option.some.inj hh)
    rw [if_neg hne, numPos, if_neg (by
      rintro (h | h | ⟨h, h1⟩)
      · exact h0 h
      · omega
      · by_cases hz : 1 ≤ v.toNat
        · exact digits_head _ hz h
        · rw [show v.toNat = 0 by omega, Lib.decDigits_one (by decide)] at h1
          simp at h1)]
    have := numG_dec false (Lib.decDigits v.toNat) 0
    rw [dec_of_digits] at this
    rw [show (0 : Int) = ((0 : Nat) : Int) from rfl, this]
    have e : sg false v.toNat = v := by unfold sg; rw [if_neg (by decide)]; omega
    simp only [e, h]
theorem numsT_itoa : ∀ (N : List Int) (out : List Int), N.all (fun v => fitsB 77 v) = true → numsT (N.map itoaB) out = (out ++ N, true)
  | [], out, _ => by rw [List.map_nil, numsT, List.append_nil]
  | v :: N, out, h => by
    rw [List.all_cons, Bool.and_eq_true] at h
    rw [List.map_cons, numsT, numT_itoa v h.1, if_pos rfl, numsT_itoa N _ h.2]
    simp
theorem refK_word : ∀ i : Fin 15, 1 ≤ i.val → refK (wordAt i.val) 15 = i.val := by decide +kernel
theorem itoa_small (v : Int) (h : fitsB 77 v = true) : (itoaB v).size ≤ 1099511627776 := by
  have h1 := (fits_77t v).1 h
  have := itoa_size v h1.1 h1.2
  omega
theorem numberT_itoa (v : Int) (h : fitsB 77 v = true) : numberT (itoaB v) = (v, true) := by rw [numberT_eq _ (itoa_small v h), numT_itoa v h]
theorem numbersT_itoa (N : List Int) (hl : N.length ≤ 1048576) (h : N.all (fun v => fitsB 77 v) = true) : numbersT (N.map itoaB) = (N, true) := by
  rw [numbersT_eq _ (fun x hx => by obtain ⟨v, hv, rfl⟩ := List.mem_map.1 hx; exact itoa_small v (List.all_eq_true.1 h v hv)) (by rw [List.length_map]; exact hl), numsT_itoa N [] h]
  rfl
/-- a step's own fields -/
def bareT (o : OpV) : OpV :=
  if o.kind = 2 then { zeroOp o.kind with s := o.s, key := o.key, val := o.val } else if o.kind = 3 then { zeroOp o.kind with s := o.s, key := o.key } else if o.kind = 4 then { zeroOp o.kind with s := o.s, keys := o.keys }
  else if o.kind = 5 ∨ o.kind = 6 then { zeroOp o.kind with s := o.s } else if o.kind = 8 ∨ o.kind = 9 then { zeroOp o.kind with key := o.key } else if o.kind = 11 then { zeroOp o.kind with n := o.n }
  else if o.kind = 12 then { zeroOp o.kind with mask := o.mask } else if o.kind = 13 then { zeroOp o.kind with page := o.page, at_ := o.at_, x := o.x } else zeroOp o.kind
theorem body_back (o : OpV) (l : List ByteArray) (h : refW o = some l) (hm : o.mask.length ≤ 1000) : refStepF l = (bareT o, true) := by
  obtain ⟨h1, h2, h3, rfl, h13⟩ := refW_eq o l h
  obtain ⟨k, hk⟩ : ∃ k : Nat, o.kind = k := ⟨o.kind.toNat, by omega⟩
  have hkn : o.kind.toNat = k := by omega
  rw [hkn]
  have hN := nums_of hk
  have hR := rest_of hk
  rw [ref_body (wordAt k) _ k (refK_word ⟨k, by omega⟩ (by show 1 ≤ k; omega))]
  unfold bareT
  rw [hk]
  have kc : k = 1 ∨ k = 2 ∨ k = 3 ∨ k = 4 ∨ k = 5 ∨ k = 6 ∨ k = 7 ∨ k = 8 ∨ k = 9 ∨ k = 10 ∨ k = 11 ∨ k = 12 ∨ k = 13 ∨ k = 14 := by omega
  rcases kc with rfl | rfl | rfl | rfl | rfl | rfl | rfl | rfl | rfl | rfl | rfl | rfl | rfl | rfl
  · rw [hN, hR]; rfl
  · have hs : fitsB 77 o.s = true := by rw [hN] at h3; simpa using h3
    rw [hN, hR]
    show refBody 2 [itoaB o.s, o.key, o.val] = _
    simp [refBody, numberT_itoa o.s hs]
  · have hs : fitsB 77 o.s = true := by rw [hN] at h3; simpa using h3
    rw [hN, hR]
    show refBody 3 [itoaB o.s, o.key] = _
    simp [refBody, numberT_itoa o.s hs]
  · have hs : fitsB 77 o.s = true := by rw [hN] at h3; simpa using h3
    rw [hN, hR]
    show refBody 4 (itoaB o.s :: o.keys) = _
    simp [refBody, numberT_itoa o.s hs]
  · have hs : fitsB 77 o.s = true := by rw [hN] at h3; simpa using h3
    rw [hN, hR]
    show refBody 5 [itoaB o.s] = _
    simp [refBody, numberT_itoa o.s hs]
  · have hs : fitsB 77 o.s = true := by rw [hN] at h3; simpa using h3
    rw [hN, hR]
    show refBody 6 [itoaB o.s] = _
    simp [refBody, numberT_itoa o.s hs]
  · rw [hN, hR]; rfl
  · rw [hN, hR]; rfl
  · rw [hN, hR]; rfl
  · rw [hN, hR]; rfl
  · have hs := numbersT_itoa (numsOf o) (by have := nums2_len o hm; omega) h3
    rw [hN] at hs
    have hs' : numbersT [itoaB o.n] = ([o.n], true) := hs
    rw [hN, hR]
    show refBody 11 [itoaB o.n] = _
    simp [refBody, hs']
  · have hs := numbersT_itoa (numsOf o) (by have := nums2_len o hm; omega) h3
    rw [hN] at hs
    have hs' : numbersT (o.mask.map itoaB) = (o.mask, true) := hs
    rw [hN, hR]
    show refBody 12 (o.mask.map itoaB ++ []) = _
    rw [List.append_nil]
    simp [refBody, hs']
  · have hs := numbersT_itoa (numsOf o) (by have := nums2_len o hm; omega) h3
    rw [hN] at hs
    have hs' : numbersT [itoaB o.page, itoaB o.at_, itoaB o.x] = ([o.page, o.at_, o.x], true) := hs
    have hx : 0 ≤ o.x ∧ o.x ≤ 255 := by omega
    rw [hN, hR]
    show refBody 13 [itoaB o.page, itoaB o.at_, itoaB o.x] = _
    simp [refBody, hs', hx.1, hx.2]
  · rw [hN, hR]; rfl
/-- a step of few, short things -/
structure SmallB (m n : Nat) (o : OpV) : Prop where
  key : o.key.size ≤ m
  val : o.val.size ≤ m
  kn : o.keys.length ≤ n
  ks : ∀ x ∈ o.keys, x.size ≤ m
  mn : o.mask.length ≤ n
theorem SmallB.small {m n : Nat} {o : OpV} (h : SmallB m n o) (hm : m ≤ 1000) (hn : n ≤ 1000) : Small o :=
  ⟨by have := h.key; omega, by have := h.val; omega, by have := h.kn; omega, fun x hx => by have := h.ks x hx; omega, by have := h.mn; omega⟩
theorem restB_small {m n : Nat} (o : OpV) (h : SmallB m n o) : ∀ x ∈ restOf o, x.size ≤ m := by
  unfold restOf
  have h1 := h.key
  have h2 := h.val
  have h3 := h.ks
  repeat' split
  all_goals intro x hx
  all_goals try simp only [List.mem_cons, List.not_mem_nil, or_false] at hx
  all_goals first | exact h3 x hx | (rcases hx with rfl | rfl <;> assumption) | (subst hx; assumption) | cases hx
theorem numsB_len {m n : Nat} (o : OpV) (h : SmallB m n o) (hn : 3 ≤ n) : (numsOf o).length ≤ n := by
  have h1 := h.mn
  unfold numsOf
  repeat' split
  all_goals first | exact h1 | (simp only [List.length_cons, List.length_nil]; omega)
theorem restB_len {m n : Nat} (o : OpV) (h : SmallB m n o) (hn : 3 ≤ n) : (restOf o).length ≤ n := by
  have h1 := h.kn
  unfold restOf
  repeat' split
  all_goals first | exact h1 | (simp only [List.length_cons, List.length_nil]; omega)
theorem refW_size {m n : Nat} (hm : 10 ≤ m) (hn : 3 ≤ n) (o : OpV) (h : SmallB m n o) (l : List ByteArray) (hl : refW o = some l) : (Wd.joinL l).length ≤ (3 * m + 3) * (2 * n + 1) := by
  obtain ⟨h1, h2, h3, rfl, _⟩ := refW_eq o l hl
  have hn1 := numsB_len o h hn
  have hr := restB_len o h hn
  have hs : ∀ x ∈ wordAt o.kind.toNat :: ((numsOf o).map itoaB ++ restOf o), x.size ≤ m := by
    intro x hx
    rcases List.mem_cons.1 hx with rfl | hx
    · have := word_small o.kind.toNat (by omega); omega
    · rcases List.mem_append.1 hx with hx | hx
      · obtain ⟨v, hv, rfl⟩ := List.mem_map.1 hx
        have := (fits_77t v).1 (List.all_eq_true.1 h3 v hv)
        have := itoa_size v this.1 this.2
        omega
      · exact restB_small o h x hx
  have hlen : (wordAt o.kind.toNat :: ((numsOf o).map itoaB ++ restOf o)).length ≤ 2 * n + 1 := by
    rw [List.length_cons, List.length_append, List.length_map]; omega
  exact Nat.le_trans (Wd.joinL_len m _ hs) (Nat.mul_le_mul_left _ hlen)
theorem short_smallB (o : OpV) (near : Bool) : SmallB 60 6 (shortT o near) := by
  have h1 := cut_small o.key 40
  have h2 := cut_small o.val 60
  have h3 := Wd.textsL_length o.keys 6 20
  have h4 := Wd.textsL_size o.keys 6 20
  have h5 : (o.mask.take 6).length ≤ 6 := List.length_take_le _ _
  cases near
  · exact ⟨by show (Wd.cut o.key 40).size ≤ 60; omega, by show (Wd.cut o.val 60).size ≤ 60; omega, by show (Wd.textsL o.keys 6 20).length ≤ 6; omega, fun x hx => by have := h4 x hx; omega, by show (o.mask.take 6).length ≤ 6; omega⟩
  · exact ⟨by show (Wd.cut o.key 40).size ≤ 60; omega, by show (Wd.cut o.val 60).size ≤ 60; omega, by show (Wd.textsL o.keys 6 20).length ≤ 6; omega, fun x hx => by have := h4 x hx; omega, by show ((o.mask.take 6).map _).length ≤ 6; rw [List.length_map]; omega⟩
theorem line_of (l : List ByteArray) (h : (Wd.joinL l).length ≤ 1048576) : (lineOf l).size ≤ 1048576 ∧ lineT (lineOf l) = (l, 0) := by
  have hs : (lineOf l).size = (Wd.joinL l).length := by show (Wd.joinL l).toArray.size = _; rw [List.size_toArray]
  refine ⟨by omega, ?_⟩
  have h1 := Wd.split_join l (by omega) 3000000 (by omega)
  have h2 := Wd.word_Split_f (lineOf l) (by omega) 3000000 (by omega)
  exact (Option.some.inj (h1.symm.trans h2)).symm
theorem parse_back (o : OpV) (l : List ByteArray) (h : refW o = some l) (hs : Small o) (hj : (Wd.joinL l).length ≤ 1048576) : parseL (lineOf l) = (bareT o, 0) := by
  obtain ⟨_, hl⟩ := line_of l hj
  obtain ⟨_, h2, h3⟩ := refW_joins o hs l h
  unfold parseL
  rw [hl]
  show parseO l 0 = _
  rw [parse_same l 0 (fun x hx => by have := h3 x hx; omega) (by omega), refParseO, if_pos rfl, body_back o l h hs.mn]
  rfl
theorem bare_f (o : OpV) (k : Nat) : cachepotlaw26_bare.f (k + 5) o.kind o.s o.key o.val o.keys o.n o.mask o.page o.at_ o.x = some ((bareT o).kind, (bareT o).s, (bareT o).key, (bareT o).val, (bareT o).keys, (bareT o).n, (bareT o).mask, (bareT o).page, (bareT o).at_, (bareT o).x) := by
  unfold cachepotlaw26_bare.f bareT
  by_cases h2 : o.kind = 2
  · simp [h2, zeroOp]
  · by_cases h3 : o.kind = 3
    · simp [h3, zeroOp]
    · by_cases h4 : o.kind = 4
      · simp [h4, zeroOp]
      · by_cases h5 : o.kind = 5
        · simp [h5, zeroOp, cachepotlaw26_bare.j0]
        · by_cases h6 : o.kind = 6
          · simp [h6, zeroOp, cachepotlaw26_bare.j0]
          · by_cases h8 : o.kind = 8
            · simp [h8, zeroOp, cachepotlaw26_bare.j0, cachepotlaw26_bare.j1]
            · by_cases h9 : o.kind = 9
              · simp [h9, zeroOp, cachepotlaw26_bare.j0, cachepotlaw26_bare.j1]
              · by_cases h11 : o.kind = 11
                · simp [h11, zeroOp, cachepotlaw26_bare.j0, cachepotlaw26_bare.j1]
                · by_cases h12 : o.kind = 12
                  · simp [h12, zeroOp, cachepotlaw26_bare.j0, cachepotlaw26_bare.j1]
                  · by_cases h13 : o.kind = 13
                    · simp [h13, zeroOp, cachepotlaw26_bare.j0, cachepotlaw26_bare.j1]
                    · simp [h2, h3, h4, h5, h6, h8, h9, h11, h12, h13, zeroOp, cachepotlaw26_bare.j0, cachepotlaw26_bare.j1]
end Go.Proofs.YtfaelejeihmgcaaDoor.Stp
end

section
namespace Go.Proofs.YtfaelejeihmgcaaDoor.Stp
open Go.RowKit Go.Proofs.YtfaelejeihmgcaaDoorW.PrintWords Go.Proofs.YtfaelejeihmgcaaDoorW.PrintLast
theorem opL_of_R {W : World} {b : Nat} {o : OpV} {A B : Option Addr} {c d : Nat} (h1 : Kd.R Kd.string 9 W b (fun _ => True) (.slice A o.keys.length c) o.keys) (h2 : Kd.R (Kd.int .i64) 3 W b (fun _ => True) (.slice B o.mask.length d) o.mask) : OpL W o A c B d :=
  ⟨(Kd.R_reads' h1).2.2, (Kd.R_reads' h1).2.1, (Kd.R_reads' h2).2.2, (Kd.R_reads' h2).2.1⟩
theorem R_upE {α : Type} {k : Kd α} {e g b : Nat} {W W1 : World} {v : Value} {xs : List α} (h : Kd.R k e W b (fun _ => True) v xs) (hg : W.grownBy W1 (some g)) (hb : g < b) : Kd.R k e W1 b (fun _ => True) v xs :=
  Kd.R_mono (Kd.R_grown (Kd.R_mono (ok' := fun q => b ≤ q) (Kd.R_bound h) (fun q hq => hq.2.1)) hg (fun q hq e => by have := Option.some.inj e; omega)) (fun _ _ => trivial)
end Go.Proofs.YtfaelejeihmgcaaDoor.Stp
end

section
namespace Go.Proofs.YtfaelejeihmgcaaDoor.Stp
open Go.RowKit Go.Proofs.YtfaelejeihmgcaaDoorW.PrintWords Go.Proofs.YtfaelejeihmgcaaDoorW.PrintLast
/-- what stands behind a parsing, with the lists' places -/
def GotR (w : World) (r : OpV × Int) (e : Ending) (w' : World) : Prop :=
  ∃ Ak ck Am cm, e = .returned (.tuple #[.agg #[.int .i64 r.1.kind, .int .i64 r.1.s, .string r.1.key, .string r.1.val, .slice Ak r.1.keys.length ck, .int .i64 r.1.n, .slice Am r.1.mask.length cm, .int .i64 r.1.page, .int .i64 r.1.at_, .int .i64 r.1.x], .int .i64 r.2]) ∧ Kd.R Kd.string 9 w' w.heap.size (fun _ => True) (.slice Ak r.1.keys.length ck) r.1.keys ∧ Kd.R (Kd.int .i64) 3 w' w.heap.size (fun _ => True) (.slice Am r.1.mask.length cm) r.1.mask ∧ Below w.heap.size w w'
theorem gotR_of {w : World} {r : OpV × Int} {e : Ending} {w' : World} (h : Parsed w r e w') : GotR w r e w' := by
  obtain ⟨vk, vm, he, hk, hm, hb⟩ := h
  obtain ⟨Ak, ck, ek⟩ := Kd.R_slice hk
  obtain ⟨Am, cm, em⟩ := Kd.R_slice hm
  subst ek
  subst em
  exact ⟨Ak, ck, Am, cm, he, hk, hm, hb⟩
theorem step_Parse_gotR (s : ByteArray) (hs : s.size ≤ 1048576) (w : World) (hT : Tabs w) : Calls Tryd.prog 42 #[.string s] w (GotR w (parseL s)) := by
  have h := line_lim s
  exact (step_Parse_walk 3000000 s (lineT s).1 (lineT s).2 w (Wd.word_Split_f s (by omega) 3000000 (by omega)) (by omega) (fun x hx => by have := h.2.1 x hx; omega) hT).mono fun e w' h' => gotR_of h'
set_option maxHeartbeats 16000000 in
set_option maxRecDepth 100000 in
theorem StepBack_walk (o : OpV) (Ak : Option Addr) (ck : Nat) (Am : Option Addr) (cm : Nat) (w : World) (hl : OpL w o Ak ck Am cm) (hT : Tabs w) :
    Calls Tryd.prog 16 #[.agg #[.int .i64 o.kind, .int .i64 o.s, .string o.key, .string o.val, .slice Ak o.keys.length ck, .int .i64 o.n, .slice Am o.mask.length cm, .int .i64 o.page, .int .i64 o.at_, .int .i64 o.x]] w fun e w' => e = .returned (.bool true) ∧ Below w.heap.size w w' := by
  have hO1 := OpAt.alloc hl
  have hb1 := below_alloc (Below.refl _ w) (opO o Ak ck Am cm)
  have hlt1 : w.heap.size < (w.alloc (opO o Ak ck Am cm)).heap.size := by simp
  have hsh := fun W (h : OpL W o Ak ck Am cm) => short_walk o Ak ck Am cm true W h
  have hsB := short_smallB o true
  clear hl
  go_enter Tryd.func16, Tryd.ntmps16
  go_upto_region 1 with (fail)
  change Code.wp _ _ _ _ (w.alloc (opO o Ak ck Am cm))
  generalize w.alloc (opO o Ak ck Am cm) = w1 at hO1 hb1 hlt1 ⊢
  have hz1 := hO1.1
  have hS := hsh w1 hO1.2
  obtain ⟨r0, r1, r2, r3, r4, r5, r6, r7, r8, r9⟩ := cells10 hz1
  clear hO1 hsh
  go_wp2_with fail
  refine hS.mono ?_
  generalize shortT o true = o' at hsB ⊢
  have hsm := hsB.small (by decide) (by decide)
  clear hS r0 r1 r2 r3 r4 r5 r6 r7 r8 r9
  rintro e w2 ⟨A, c, B, d, rfl, hRk, hRm, hb2⟩
  have hz2 := (hb2.block w.heap.size hlt1).trans hz1
  have hb3 := below_then hb1 hb1.size hb2
  obtain ⟨q0, q1, q2, q3, q4, q5, q6, q7, q8, q9⟩ := cells10 hz2
  obtain ⟨f0, f1, f2, f3, f4, f5, f6, f7, f8, f9⟩ := frozen10 hz2
  clear hz1 hb2 hb1
  go_upto_region 2 with (fail)
  clear q0 q1 q2 q3 q4 q5 q6 q7 q8 q9 f0 f1 f2 f3 f4 f5 f6 f7 f8 f9
  have hz3 := put10 hz2 (.int .i64 o'.kind) (.int .i64 o'.s) (.string o'.key) (.string o'.val) (.slice A o'.keys.length c) (.int .i64 o'.n) (.slice B o'.mask.length d) (.int .i64 o'.page) (.int .i64 o'.at_) (.int .i64 o'.x)
  have hg3 := grown10 w2 w.heap.size (.int .i64 o'.kind) (.int .i64 o'.s) (.string o'.key) (.string o'.val) (.slice A o'.keys.length c) (.int .i64 o'.n) (.slice B o'.mask.length d) (.int .i64 o'.page) (.int .i64 o'.at_) (.int .i64 o'.x)
  have hk3 := Kd.R_lower (R_upE hRk hg3 hlt1) (Nat.le_of_lt hlt1)
  have hm3 := Kd.R_lower (R_upE hRm hg3 hlt1) (Nat.le_of_lt hlt1)
  have hb4 := pw_below_grown hb3 _ hb3.size hg3 (fun k e => by cases e; exact Nat.le_refl _)
  generalize ((((((((((w2.setCell ⟨w.heap.size, 0, none⟩ (.int .i64 o'.kind)).setCell ⟨w.heap.size, 1, none⟩ (.int .i64 o'.s)).setCell ⟨w.heap.size, 2, none⟩ (.string o'.key)).setCell ⟨w.heap.size, 3, none⟩ (.string o'.val)).setCell ⟨w.heap.size, 4, none⟩ (.slice A o'.keys.length c)).setCell ⟨w.heap.size, 5, none⟩ (.int .i64 o'.n)).setCell ⟨w.heap.size, 6, none⟩ (.slice B o'.mask.length d)).setCell ⟨w.heap.size, 7, none⟩ (.int .i64 o'.page)).setCell ⟨w.heap.size, 8, none⟩ (.int .i64 o'.at_)).setCell ⟨w.heap.size, 9, none⟩ (.int .i64 o'.x)) = w3 at hz3 hg3 hk3 hm3 hb4 ⊢
  have hl3 := opL_of_R hk3 hm3
  have hJ : ∀ l, refW o' = some l → Joins l := fun l h => (refW_joins o' hsm l h).1
  have hp1 := step_Print_walk o' A c B d w3 hl3 (hT.below hb4) hsm.kn hsm.mn (by rw [print_same]; exact hJ)
  rw [show printT o' = printR (refW o') by rw [← print_same]; rfl] at hp1
  clear hz2 hRk hRm hb3 hg3 hJ hlt1
  obtain ⟨r0, r1, r2, r3, r4, r5, r6, r7, r8, r9⟩ := cells10 hz3
  cases hw : refW o' with
  | none =>
    rw [hw] at hp1
    clear hw hsm hsB hk3 hm3 hl3
    go_wp2_with fail
    refine hp1.mono ?_
    rintro e w4 ⟨rfl, hb5⟩
    have hb6 := below_then hb4 hb4.size hb5
    clear r0 r1 r2 r3 r4 r5 r6 r7 r8 r9 hz3 hb4 hb5 hp1
    go_wp2_with fail
    refine (alive_walk w4 (hT.below hb6)).mono ?_
    rintro e w6 ⟨rfl, hb9⟩
    have hb10 := below_then hb6 hb6.size hb9
    clear hb6 hb9
    go_wp2_with fail
    refine (alive_walk w6 (hT.below hb10)).mono ?_
    rintro e w7 ⟨rfl, hb11⟩
    have HB := Lib.hid (below_then hb10 hb10.size hb11)
    clear hb10 hb11
    go_wp2
    go_ret
    exact ⟨rfl, HB.out⟩
  | some l =>
    have hj := refW_size (by decide) (by decide) o' hsB l hw
    have hpb := parse_back o' l hw hsm (by omega)
    have hls := (line_of l (by omega)).1
    rw [hw] at hp1
    have hpg := fun W (h : Tabs W) => step_Parse_gotR (lineOf l) hls W h
    rw [hpb] at hpg
    have hbl : (bareT o').keys.length ≤ 1048576 ∧ (bareT o').mask.length ≤ 1048576 := by
      have := hsm.kn
      have := hsm.mn
      unfold bareT
      repeat' split
      all_goals first | exact ⟨by show o'.keys.length ≤ _; omega, Nat.zero_le _⟩ | exact ⟨Nat.zero_le _, by show o'.mask.length ≤ _; omega⟩ | exact ⟨Nat.zero_le _, Nat.zero_le _⟩
    have hsame := op_same (bareT o') hbl.1 hbl.2 2000000 (by decide)
    have hbf := bare_f o' 100
    rw [show printR (some l) = (lineOf l, (0 : Int)) from rfl] at hp1
    generalize lineOf l = line at hp1 hpg
    obtain ⟨ob, hob⟩ : ∃ ob, bareT o' = ob := ⟨_, rfl⟩
    rw [hob] at hpg hsame hbf
    have HS := Lib.hid hsame
    have HF := Lib.hid hbf
    clear hw hsm hsB hj hpb hls hbl hob hsame hbf hl3
    go_wp2_with fail
    refine hp1.mono ?_
    rintro e w4 ⟨rfl, hb5⟩
    have hz4 := (hb5.block w.heap.size (blk_lt hz3)).trans hz3
    have hk4 := Kd.R_below hk3 hb5
    have hm4 := Kd.R_below hm3 hb5
    have hb6 := below_then hb4 hb4.size hb5
    clear r0 r1 r2 r3 r4 r5 r6 r7 r8 r9 hz3 hb4 hb5 hp1 hk3 hm3
    go_wp2_with fail
    refine (alive_walk w4 (hT.below hb6)).mono ?_
    rintro e w6 ⟨rfl, hb9⟩
    have hz6 := (hb9.block w.heap.size (blk_lt hz4)).trans hz4
    have hk6 := Kd.R_below hk4 hb9
    have hm6 := Kd.R_below hm4 hb9
    have hb10 := below_then hb6 hb6.size hb9
    clear hb6 hb9 hz4 hk4 hm4
    go_wp2_with fail
    refine (hpg w6 (hT.below hb10)).mono ?_
    rintro e w7 ⟨A7, c7, B7, d7, rfl, hq7, hn7, hb11⟩
    have hz7 := (hb11.block w.heap.size (blk_lt hz6)).trans hz6
    have hk7 := Kd.R_below (Kd.R_mono (ok' := fun k => k < w6.heap.size) (Kd.R_bound hk6) (fun k hk => hk.2.2.1)) hb11
    have hm7 := Kd.R_below (Kd.R_mono (ok' := fun k => k < w6.heap.size) (Kd.R_bound hm6) (fun k hk => hk.2.2.1)) hb11
    have hb12 := below_then hb10 hb10.size hb11
    have hl67 := hb11.size
    have hq7' := Kd.R_mono (ok' := fun k => w6.heap.size ≤ k) (Kd.R_bound hq7) (fun k hk => hk.2.1)
    have hn7' := Kd.R_mono (ok' := fun k => w6.heap.size ≤ k) (Kd.R_bound hn7) (fun k hk => hk.2.1)
    clear hpg hz6 hk6 hm6 hb10 hb11 hq7 hn7
    go_upto_region 6 with (fail)
    change Code.wp _ _ _ _ (w7.alloc (opO ob A7 c7 B7 d7))
    have hy8 := heap_alloc_new w7 (opO ob A7 c7 B7 d7)
    have hz8 := (Lib.alloc_old w7 (opO ob A7 c7 B7 d7) _ (blk_lt hz7)).trans hz7
    have hk8 := Kd.R_alloc hk7 (opO ob A7 c7 B7 d7)
    have hm8 := Kd.R_alloc hm7 (opO ob A7 c7 B7 d7)
    have hq8 := Kd.R_alloc hq7' (opO ob A7 c7 B7 d7)
    have hn8 := Kd.R_alloc hn7' (opO ob A7 c7 B7 d7)
    have hb8 := below_alloc hb12 (opO ob A7 c7 B7 d7)
    obtain ⟨g8, hg8⟩ : ∃ g8, w7.heap.size = g8 := ⟨_, rfl⟩
    rw [hg8] at hy8 hl67 ⊢
    generalize w7.alloc (opO ob A7 c7 B7 d7) = w8 at hy8 hz8 hk8 hm8 hq8 hn8 hb8 ⊢
    have hy8' : w8.heap[g8]? = some (.cells #[.int .i64 ob.kind, .int .i64 ob.s, .string ob.key, .string ob.val, .slice A7 ob.keys.length c7, .int .i64 ob.n, .slice B7 ob.mask.length d7, .int .i64 ob.page, .int .i64 ob.at_, .int .i64 ob.x] 61) := hy8
    clear hz7 hk7 hm7 hq7' hn7' hb12 hg8 hy8
    have zz : ∀ W, Below w8.heap.size w8 W → W.heap[g8]? = some (.cells #[.int .i64 ob.kind, .int .i64 ob.s, .string ob.key, .string ob.val, .slice A7 ob.keys.length c7, .int .i64 ob.n, .slice B7 ob.mask.length d7, .int .i64 ob.page, .int .i64 ob.at_, .int .i64 ob.x] 61) ∧ W.heap[w.heap.size]? = some (.cells #[.int .i64 o'.kind, .int .i64 o'.s, .string o'.key, .string o'.val, .slice A o'.keys.length c, .int .i64 o'.n, .slice B o'.mask.length d, .int .i64 o'.page, .int .i64 o'.at_, .int .i64 o'.x] 61) := fun W hW =>
      ⟨(hW.block g8 (blk_lt hy8')).trans hy8', (hW.block w.heap.size (blk_lt hz8)).trans hz8⟩
    have bc : ∀ W, Below w8.heap.size w8 W → Calls Tryd.prog 49 #[.agg #[.int .i64 o'.kind, .int .i64 o'.s, .string o'.key, .string o'.val, .slice A o'.keys.length c, .int .i64 o'.n, .slice B o'.mask.length d, .int .i64 o'.page, .int .i64 o'.at_, .int .i64 o'.x]] W fun e w' => ∃ Ab cb Bb db, e = .returned (.agg #[.int .i64 ob.kind, .int .i64 ob.s, .string ob.key, .string ob.val, .slice Ab ob.keys.length cb, .int .i64 ob.n, .slice Bb ob.mask.length db, .int .i64 ob.page, .int .i64 ob.at_, .int .i64 ob.x]) ∧ OpL w' ob Ab cb Bb db ∧ OpL w' ob A7 c7 B7 d7 ∧ w'.heap[g8]? = some (.cells #[.int .i64 ob.kind, .int .i64 ob.s, .string ob.key, .string ob.val, .slice A7 ob.keys.length c7, .int .i64 ob.n, .slice B7 ob.mask.length d7, .int .i64 ob.page, .int .i64 ob.at_, .int .i64 ob.x] 61) ∧ Below w.heap.size w w' := fun W hW => by
      refine (cachepotlaw26_bare.calls 105 o'.kind o'.s o'.key o'.val _ _ o'.keys o'.n _ _ o'.mask o'.page o'.at_ o'.x ob.kind ob.s ob.key ob.val ob.keys ob.n ob.mask ob.page ob.at_ ob.x w W (below_then hb8 hb8.size hW) (Kd.R_below hk8 hW) (Kd.R_below hm8 hW) HF.out).mono ?_
      rintro e w' ⟨v4, v6, he, hR4, hR6, hb, hkp⟩
      obtain ⟨Ab, cb, e4⟩ := Kd.R_slice hR4
      obtain ⟨Bb, db, e6⟩ := Kd.R_slice hR6
      subst e4
      subst e6
      have far : ∀ k, w6.heap.size ≤ k → k < W.heap.size → w'.heap[k]? = W.heap[k]? := fun k hk hlt => hkp.2 k hlt (fun hs => by rcases hs with hs | hs <;> omega)
      have h1 := Kd.R_step (Kd.R_below hq8 hW) far
      have h2 := Kd.R_step (Kd.R_below hn8 hW) far
      refine ⟨Ab, cb, Bb, db, he, ⟨(Kd.R_reads' hR4).2.2, (Kd.R_reads' hR4).2.1, (Kd.R_reads' hR6).2.2, (Kd.R_reads' hR6).2.1⟩, ⟨(Kd.R_reads' h1).2.2, (Kd.R_reads' h1).2.1, (Kd.R_reads' h2).2.2, (Kd.R_reads' h2).2.1⟩, ?_, hb⟩
      have := (zz W hW).1
      exact (far g8 hl67 (blk_lt this)).trans this
    obtain ⟨z1, z2⟩ := zz w8 (Below.refl _ _)
    obtain ⟨p0, p1, p2, p3, p4, p5, p6, p7, p8, p9⟩ := cells10 z1
    obtain ⟨q0, q1, q2, q3, q4, q5, q6, q7, q8, q9⟩ := cells10 z2
    clear hk8 hm8 hq8 hn8 hb8 hz8 hy8' zz hl67
    go_region_with ((first | ((with_reducible refine (bc _ (by repeat (first | assumption | exact Below.refl _ _ | apply below_drew | apply below_alloc))).mono ?_); rintro e w9 ⟨Ab, cb, Bb, db, rfl, hlb, hlp, hzp, hb9⟩; obtain ⟨s0, s1, s2, s3, s4, s5, s6, s7, s8, s9⟩ := cells10 hzp) | ((with_reducible refine (cachepotbook_SameOp.calls 2000000 ob.kind ob.s ob.key ob.val A7 c7 ob.keys ob.n B7 d7 ob.mask ob.page ob.at_ ob.x ob.kind ob.s ob.key ob.val Ab cb ob.keys ob.n Bb db ob.mask ob.page ob.at_ ob.x true _ hlp.k hlp.kc hlp.m hlp.mc hlb.k hlb.kc hlb.m hlb.mc HS.out).mono ?_); rintro e w10 ⟨rfl, hb10⟩)))
    all_goals (
      have HB := Lib.hid (below_then hb9 hb9.size hb10)
      clear hb9 hb10
      go_wp2
      go_ret
      exact ⟨rfl, HB.out⟩)
end Go.Proofs.YtfaelejeihmgcaaDoor.Stp
end

section
namespace Go.Proofs.YtfaelejeihmgcaaDoor.Stp
open Go.RowKit Go.Proofs.YtfaelejeihmgcaaDoorW.PrintWords
/-- a byte of a number -/
def numByte (c : UInt8) : Prop := c = 45 ∨ 48 ≤ c.toNat ∧ c.toNat ≤ 57
theorem digits_bytes (u : Nat) : ∀ c ∈ Lib.decDigits u, numByte c := by
  induction u using Nat.strongRecOn with
  | ind u ih =>
    by_cases h : u < 10
    · intro c hc
      rw [Lib.decDigits_one h] at hc
      rw [List.mem_singleton.1 hc]
      exact .inr (by rw [digit_byte u h]; omega)
    · intro c hc
      rw [dec_step u (by omega)] at hc
      rcases List.mem_append.1 hc with hc | hc
      · exact ih (u / 10) (by omega) c hc
      · exact ih (u % 10) (by omega) c hc
theorem itoa_bytes (v : Int) : ∀ c ∈ Lib.itoa v, numByte c := by
  unfold Lib.itoa
  split
  · intro c hc
    rcases List.mem_cons.1 hc with rfl | hc
    · exact .inl rfl
    · exact digits_bytes _ c hc
  · exact digits_bytes _
theorem plain_of (s : ByteArray) (h : ∀ c ∈ s.data.toList, numByte c) : ∀ (f pos : Nat), Wd.plainFrom s f pos = true := by
  intro f
  induction f with
  | zero => intro pos; rfl
  | succ f ih =>
    intro pos
    rw [Wd.plainFrom]
    by_cases hp : pos < s.size
    · rw [if_pos hp, ih, Bool.and_true]
      have hm : Wd.byteAt s pos ∈ s.data.toList := by
        have : Wd.byteAt s pos = s.data.toList[pos]'(by rw [← Lib.size_eq]; exact hp) := by
          unfold Wd.byteAt
          simp [ByteArray.get!, getElem!_pos s.data pos (by exact hp)]
        rw [this]
        exact List.getElem_mem _
      have hb := h _ hm
      have hlt : (Wd.byteAt s pos).toNat < 128 := by
        rcases hb with e | e
        · rw [e]; decide
        · omega
      have hd := Wd.decode_lt s pos hp hlt
      unfold Wd.mayB
      rw [hd]
      unfold Wd.mayR
      rcases hb with e | e
      · rw [e]; decide
      · simp
        omega
    · rw [if_neg hp]
theorem quote_num (v : Int) : Wd.quoteB (itoaB v) = Lib.itoa v := by
  have hne : (itoaB v).size ≠ 0 := by
    show (Lib.itoa v).toArray.size ≠ 0
    rw [List.size_toArray]
    unfold Lib.itoa
    split
    · simp
    · exact dec_ne _
  have hp : Wd.plainB (itoaB v) = true := by
    unfold Wd.plainB
    rw [plain_of (itoaB v) (itoa_bytes v), decide_eq_true hne]
    rfl
  unfold Wd.quoteB
  rw [if_pos hp]
  rfl
theorem quote_fuse : Wd.quoteB (wordAt 11) = [102, 117, 115, 101] := by decide +kernel
def fuseL (v : Int) : ByteArray := (⟨#[102, 117, 115, 101, 32]⟩ : ByteArray) ++ itoaB v
theorem fuse_line (v : Int) : lineOf [wordAt 11, itoaB v] = fuseL v := by
  apply ByteArray.ext
  apply Array.ext'
  show (Wd.joinL [wordAt 11, itoaB v]) = (fuseL v).data.toList
  rw [Wd.joinL_cons, Wd.tailB_cons, Wd.tailB_nil, quote_fuse, quote_num, List.append_nil]
  unfold fuseL
  rw [ByteArray.data_append, Array.toList_append]
  rfl
theorem itoa_len (v : Int) (h0 : -9223372036854775808 ≤ v) (h1 : v ≤ 9223372036854775807) : (itoaB v).size ≤ 31 := by
  show (Lib.itoa v).toArray.size ≤ 31
  rw [List.size_toArray]
  unfold Lib.itoa
  have hp : (9223372036854775808 : Nat) < 10 ^ 30 := by decide
  split
  · have := dec_short 29 v.natAbs (by omega)
    rw [List.length_cons]
    omega
  · have := dec_short 29 v.toNat (by omega)
    omega
theorem fuse_join (v : Int) (h0 : -9223372036854775808 ≤ v) (h1 : v ≤ 9223372036854775807) : (Wd.joinL [wordAt 11, itoaB v]).length ≤ 36 := by
  have := itoa_len v h0 h1
  rw [Wd.joinL_cons, Wd.tailB_cons, Wd.tailB_nil, quote_fuse, quote_num, List.append_nil]
  have e : (Lib.itoa v).length = (itoaB v).size := by show _ = (Lib.itoa v).toArray.size; rw [List.size_toArray]
  simp only [List.length_append, List.length_cons, List.length_nil]
  omega
theorem numT_out (v : Int) (h : fitsB 77 v = false) : (numT (itoaB v)).2 = false := by
  have hd : (itoaB v).data.toList = Lib.itoa v := rfl
  unfold numT
  rw [hd]
  unfold Lib.itoa
  by_cases hn : v < 0
  · rw [if_pos hn, if_pos (show (45 :: Lib.decDigits v.natAbs).head? = some 45 from rfl), List.tail_cons, numNeg]
    split
    · rfl
    · have := numG_dec true (Lib.decDigits v.natAbs) 0
      rw [dec_of_digits] at this
      rw [show (0 : Int) = ((0 : Nat) : Int) from rfl, this]
      have e : sg true v.natAbs = v := by unfold sg; rw [if_pos rfl]; omega
      simp only [e, h]
  · rw [if_neg hn]
    have hne : (Lib.decDigits v.toNat).head? ≠ some 45 := by
      have h1 := dec_of_digits v.toNat
      cases hl : Lib.decDigits v.toNat with
      | nil => intro hh; cases hh
      | cons c r =>
        rw [hl] at h1
        have := (no_sign h1).1
        intro hh
        exact this (Option.some.inj hh)
    rw [if_neg hne, numPos]
    split
    · rfl
    · have := numG_dec false (Lib.decDigits v.toNat) 0
      rw [dec_of_digits] at this
      rw [show (0 : Int) = ((0 : Nat) : Int) from rfl, this]
      have e : sg false v.toNat = v := by unfold sg; rw [if_neg (by decide)]; omega
      simp only [e, h]
theorem fuse_out (v : Int) (h0 : -9223372036854775808 ≤ v) (h1 : v ≤ 9223372036854775807) (h : fitsB 77 v = false) : parseL (fuseL v) = (zeroOp 0, 2) := by
  have hj := fuse_join v h0 h1
  obtain ⟨_, hl⟩ := line_of [wordAt 11, itoaB v] (by omega)
  rw [fuse_line] at hl
  have hs : ∀ x ∈ [wordAt 11, itoaB v], x.size ≤ 1099511627776 := by
    intro x hx
    have a := word_small 11 (by decide)
    have b := itoa_len v h0 h1
    simp only [List.mem_cons, List.not_mem_nil, or_false] at hx
    rcases hx with rfl | rfl <;> omega
  unfold parseL
  rw [hl]
  show parseO [wordAt 11, itoaB v] 0 = _
  rw [parse_same _ 0 hs (by simp), refParseO, if_pos rfl, ref_body (wordAt 11) [itoaB v] 11 (refK_word ⟨11, by decide⟩ (by decide))]
  have hn : (numbersT [itoaB v]).2 = false := by
    rw [numbersT_eq [itoaB v] (fun x hx => hs x (List.mem_cons_of_mem _ hx)) (by simp), numsT, if_neg (by rw [numT_out v h]; decide)]
  have e : refBody 11 [itoaB v] = (zeroOp 0, false) := by
    unfold refBody
    rw [if_neg (by decide), if_neg (by decide), if_neg (by decide), if_neg (by decide), if_pos rfl, if_neg (by rw [hn]; rintro ⟨h, _⟩; cases h)]
  rw [e]
  rfl
def fuseO (v : Int) : OpV := { zeroOp 11 with n := v }
theorem fuse_refW (v : Int) : refW (fuseO v) = if fitsB 77 v = true then some [wordAt 11, itoaB v] else none := by
  rw [refW_at (fuseO v) 11 rfl (by decide) (by decide) (by decide)]
  show Option.map (· ++ []) (maskW [v] [wordAt 11]) = _
  rw [maskW_one, map_ite]
  rfl
theorem fuse_small (v : Int) : SmallB 10 3 (fuseO v) := ⟨Nat.zero_le _, Nat.zero_le _, Nat.zero_le _, (fun x hx => by have h : x ∈ ([] : List ByteArray) := hx; simp at h), Nat.zero_le _⟩
theorem fuse_in (v : Int) (h0 : -9223372036854775808 ≤ v) (h1 : v ≤ 9223372036854775807) (h : fitsB 77 v = true) : parseL (fuseL v) = (fuseO v, 0) := by
  have hj := fuse_join v h0 h1
  have hw := fuse_refW v
  rw [if_pos h] at hw
  have := parse_back (fuseO v) _ hw ((fuse_small v).small (by decide) (by decide)) (by omega)
  rw [fuse_line] at this
  exact this
end Go.Proofs.YtfaelejeihmgcaaDoor.Stp
end

section
namespace Go.Proofs.YtfaelejeihmgcaaDoor.Stp
open Go.RowKit Go.Proofs.YtfaelejeihmgcaaDoorW.PrintWords Go.Proofs.YtfaelejeihmgcaaDoorW.PrintLast
theorem i64_in {v : Int} (h : (Lit.int .i64 v).wf = true) : -9223372036854775808 ≤ v ∧ v ≤ 9223372036854775807 := by
  simp [Lit.wf, IntKind.min, IntKind.max, IntKind.signed, IntKind.bits] at h
  omega
set_option maxHeartbeats 16000000 in
set_option maxRecDepth 100000 in
theorem StepBounds_walk (n : Int) (hn : (Lit.int .i64 n).wf = true) (w : World) (hT : Tabs w) : Calls Tryd.prog 18 #[.int .i64 n] w fun e w' => e = .returned (.bool true) ∧ Below w.heap.size w w' := by
  obtain ⟨h0, h1⟩ := i64_in hn
  have hsm := fuse_small n
  have hp1 := step_Print_walk (fuseO n) none 0 none 0 w ⟨Kd.C_nil _ _, Nat.zero_le _, Kd.C_nil _ _, Nat.zero_le _⟩ hT (Nat.zero_le _) (Nat.zero_le _) (by rw [print_same]; exact fun l h => (refW_joins (fuseO n) (hsm.small (by decide) (by decide)) l h).1)
  rw [show printT (fuseO n) = printR (refW (fuseO n)) by rw [← print_same]; rfl, fuse_refW] at hp1
  have hsz := itoa_len n h0 h1
  have hdg := fun W => cachepotref3_Digits.calls 30 n (itoaB n) W (Digits_f n h0 h1)
  have hls : (fuseL n).size ≤ 1048576 := by
    unfold fuseL
    rw [ByteArray.size_append]
    show 5 + (itoaB n).size ≤ _
    omega
  have hpg := fun W (h : Tabs W) => step_Parse_got (fuseL n) hls W h
  by_cases hf : fitsB 77 n = true
  · have hb := (fits_77t n).1 hf
    rw [if_pos hf] at hp1
    have hp2 : Calls Tryd.prog 47 #[.agg #[.int .i64 11, .int .i64 0, .string ⟨#[]⟩, .string ⟨#[]⟩, .slice none 0 0, .int .i64 n, .slice none 0 0, .int .i64 0, .int .i64 0, .int .i64 0]] w (Printed w (lineOf [wordAt 11, itoaB n], 0)) := hp1
    rw [fuse_line] at hp2
    rw [fuse_in n h0 h1 hf] at hpg
    unfold fuseL at hp2 hpg
    generalize itoaB n = dg at hp2 hpg hdg hsz
    have t1 : decide (n < -1000000) = false := decide_eq_false (by omega)
    have t2 : decide (1000000 < n) = false := decide_eq_false (by omega)
    have c5 : (9223372036854775807 < 5 + dg.size) = False := eq_false (by omega)
    clear hp1 hsm hls hf hb hn hsz h0 h1
    go_enter Tryd.func18, Tryd.ntmps18
    go_wp2_with fail
    refine hp2.mono ?_
    rintro e w1 ⟨rfl, hb1⟩
    clear hp2
    go_wp2_with fail
    refine (hpg w1 (hT.below hb1)).mono ?_
    rintro e w2 ⟨A, c, B, d, rfl, hl2, hb2⟩
    have hb3 := below_then hb1 hb1.size hb2
    clear hpg hb1 hb2 hl2
    go_upto_region 6 with (fail)
    change Code.wp _ _ _ _ (w2.alloc (opO (fuseO n) A c B d))
    have hz := heap_alloc_new w2 (opO (fuseO n) A c B d)
    have hb4 := below_alloc hb3 (opO (fuseO n) A c B d)
    generalize hg : w2.heap.size = g at hz ⊢
    generalize w2.alloc (opO (fuseO n) A c B d) = w3 at hz hb4 ⊢
    clear hb3 hg
    go_wp2_with fail
    refine (alive_walk w3 (hT.below hb4)).mono ?_
    rintro e w4 ⟨rfl, hb5⟩
    have hz4 := (hb5.block g (blk_lt hz)).trans hz
    have hb6 := below_then hb4 hb4.size hb5
    have r5 : w4.cell? ⟨g, 5, none⟩ = some (.int .i64 n) := Lib.cell_of_heap hz4 5
    have r0 : w4.cell? ⟨g, 0, none⟩ = some (.int .i64 11) := Lib.cell_of_heap hz4 0
    clear hz hz4 hb4 hb5
    go_wp2_with fail
    refine (hdg w4).mono ?_
    rintro e w5 ⟨rfl, hb7⟩
    have HB := Lib.hid (below_then hb6 hb6.size hb7)
    clear hb6 hb7
    go_wp2
    go_ret
    exact ⟨rfl, HB.out⟩
  · have hf' : fitsB 77 n = false := by simpa using hf
    have hb : n < -1000000 ∨ 1000000 < n := by
      have : ¬ (-1000000 ≤ n ∧ n ≤ 1000000) := fun h => hf ((fits_77t n).2 h)
      omega
    rw [if_neg hf] at hp1
    have hp2 : Calls Tryd.prog 47 #[.agg #[.int .i64 11, .int .i64 0, .string ⟨#[]⟩, .string ⟨#[]⟩, .slice none 0 0, .int .i64 n, .slice none 0 0, .int .i64 0, .int .i64 0, .int .i64 0]] w (Printed w (⟨#[]⟩, 2)) := hp1
    rw [fuse_out n h0 h1 hf'] at hpg
    unfold fuseL at hpg
    generalize itoaB n = dg at hpg hdg hsz
    have c5 : (9223372036854775807 < 5 + dg.size) = False := eq_false (by omega)
    have t12 : decide (n < -1000000) = true ∨ (decide (n < -1000000) = false ∧ decide (1000000 < n) = true) := by
      by_cases h : n < -1000000
      · exact .inl (decide_eq_true h)
      · exact .inr ⟨decide_eq_false h, decide_eq_true (by omega)⟩
    clear hp1 hsm hls hf hf' hb hn hsz h0 h1
    go_enter Tryd.func18, Tryd.ntmps18
    go_wp2_with fail
    refine hp2.mono ?_
    rintro e w1 ⟨rfl, hb1⟩
    clear hp2
    rcases t12 with t1 | ⟨t1, t2⟩
    all_goals
      go_wp2_with fail
      refine (hdg w1).mono ?_
      rintro e w2 ⟨rfl, hb2⟩
      have hb3 := below_then hb1 hb1.size hb2
      clear hb2
      go_wp2_with fail
      refine (hpg w2 (hT.below hb3)).mono ?_
      rintro e w3 ⟨A, c, B, d, rfl, hl3, hb4⟩
      have hb5 := below_then hb3 hb3.size hb4
      clear hb3 hb4 hl3
      go_upto_region 4 with (fail)
      change Code.wp _ _ _ _ (w3.alloc (opO (zeroOp 0) A c B d))
      have hb6 := below_alloc hb5 (opO (zeroOp 0) A c B d)
      generalize w3.alloc (opO (zeroOp 0) A c B d) = w4 at hb6 ⊢
      clear hb5
      go_wp2_with fail
      refine (alive_walk w4 (hT.below hb6)).mono ?_
      rintro e w5 ⟨rfl, hb7⟩
      have HB := Lib.hid (below_then hb6 hb6.size hb7)
      clear hb6 hb7
      go_wp2
      go_ret
      exact ⟨rfl, HB.out⟩
end Go.Proofs.YtfaelejeihmgcaaDoor.Stp
end
