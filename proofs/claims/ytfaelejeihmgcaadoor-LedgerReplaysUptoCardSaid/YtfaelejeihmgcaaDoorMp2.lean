/-
  Texts of mine, and texts that print.sh and pp.py wrote, merged and cut to what is used: HandO, Atm, HandM, HandR, PureN, HandQ, HandVs, Lg6, Shelf, Bld, Tabs, Wd0, HandE, HandF, HandL, Lg2, Lg4, HandP, Lg13
-/
import Derived.Test.YtfaelejeihmgcaaDoorProg
import Derived.Below
import Derived.Lib.ItoaMem
import Derived.Lib.LaidTab
import Derived.Deep.Draws
import Derived.Deep.AppendLies
import Derived.Maps.AppendAt
import Derived.OwnWalk
import Derived.Laws.BytesArg
import Derived.Laws.MakeOwn
import Derived.Laws.OwnMore
import Derived.Deep.OwnRows
import Derived.Tactics
import Derived.Lib.ConvBytes
import Derived.Laws.Slices
import Derived.WalkKit
import Derived.KernelRfl
import Derived.RowKit3
import Derived.Deep.LoopGhost
import Derived.Deep.QuietTactic
import Derived.BigQuiet
import Derived.WideLaws
import Derived.Deep.DeepCutAuto
import Derived.Deep.CutBlock
import Derived.Deep.RegionHeld3
import Derived.Laws.Rows
import Derived.Lib.AppendStr
import Derived.ArgAppend
import Derived.Laws.IdiomCopy
import Derived.RowKit
import Derived.Test.YtfaelejeihmgcaaDoorRows
import Derived.ChangeArms
import Derived.DataReads
import Derived.DataElems
import Derived.OrdersHeld
import Derived.Laws.BitsLemmas
import Derived.Laws.StructEq
import Derived.Test.YtfaelejeihmgcaaDoorCards
import Derived.Test.YtfaelejeihmgcaaDoorTie
import Derived.Lib.LaidU8
import Derived.LaidMore
import Derived.Lay
import Derived.ProofKit
import Derived.OpenShut
import Derived.SevenTiedAt
import Derived.Stop.Joined
import Derived.Deep.DeepHandedRow
import Derived.SliceStrings
import Derived.Carry
import Derived.FnData
import Derived.Outline
import Derived.Tactics2
import Derived.StillTailTactics
import Derived.StillTactics
import Derived.Lib.Builder
import Derived.Lib.Hide
import Derived.IntWalk
import Derived.WalkSpells
import Derived.Lib.DecodeNEq
import Derived.Deep.MidRow
import Derived.Maps.OwnSet
import Derived.Shelf.Strconv.Itoa0
import Derived.Shelf.Strconv.Itoa1
import Derived.Shelf.LaysM
import Derived.Shelf.Strconv.Itoa2
import Derived.Lib.Strings
import Derived.Lib.Slices
import Derived.Lib.Walk
import Derived.Lib.UnsafeStr
import Derived.Shelf.Strings.Builder1
import Derived.Shelf.Strings.OnBuilder
import Derived.Shelf.Unicode.DecodeSlow
import Derived.Shelf.Unicode.DecodeAny
import Derived.Laws.Externs
import Derived.Laws.Pointers
import Derived.Lib.AppendIntMem
import Derived.BigCall
import Derived.BigGuard
import Derived.Test.YtfaelejeihmgcaaDoorMp0
import Derived.Test.YtfaelejeihmgcaaDoorMp1

section
namespace Go.Proofs.YtfaelejeihmgcaaDoor.Lgx
open Go.RowKit Go.Proofs.YtfaelejeihmgcaaDoorW.PrintWords Go.Proofs.YtfaelejeihmgcaaDoorW.PrintLast
open Rn (aheadB ahead_f)
/-- how many stand ahead -/
def placeF (key : ByteArray) (rest : List S98) : Nat := (rest.takeWhile fun y => aheadB y.f0 key).length
def insF (seq : Int) (x : S101) (rest : List S98) : List S98 := rest.take (placeF x.f0 rest) ++ [⟨x.f0, true, x.f2, seq⟩] ++ rest.drop (placeF x.f0 rest)
def commit1 (seq : Int) (x : S101) (L : List S98) : List S98 := if x.f1 = true then withoutF x.f0 L else insF seq x (withoutF x.f0 L)
def commitF (seq : Int) : List S101 → List S98 → List S98
  | [], L => L
  | x :: l, L => commitF seq l (commit1 seq x L)
theorem commitF_snoc (seq : Int) (l : List S101) (x : S101) : ∀ L, commitF seq (l ++ [x]) L = commit1 seq x (commitF seq l L) := by
  induction l with
  | nil => intro L; rfl
  | cons y l ih => intro L; exact ih _
theorem placeF_le (key : ByteArray) (rest : List S98) : placeF key rest ≤ rest.length := (List.takeWhile_sublist _).length_le
theorem insF_len (seq : Int) (x : S101) (rest : List S98) : (insF seq x rest).length = rest.length + 1 := by
  have := placeF_le x.f0 rest
  simp [insF]
  omega
theorem commit1_len (seq : Int) (x : S101) (L : List S98) : (commit1 seq x L).length ≤ L.length + 1 := by
  have := withoutF_len x.f0 L
  unfold commit1
  split
  · omega
  · rw [insF_len]; omega
theorem commitF_len (seq : Int) (l : List S101) : ∀ L : List S98, (commitF seq l L).length ≤ L.length + l.length := by
  induction l with
  | nil => intro L; exact Nat.le_refl _
  | cons x l ih => intro L; have := ih (commit1 seq x L); have := commit1_len seq x L; simp [commitF]; omega
/-- the place, as_ the loop finds it -/
theorem place_go (key : ByteArray) : ∀ (rest : List S98) (j : Nat), (∀ i (h : i < rest.length), i < j → aheadB rest[i].f0 key = true) → j ≤ rest.length → (j = rest.length ∨ ∃ h : j < rest.length, aheadB rest[j].f0 key = false) → placeF key rest = j
  | [], j, _, hj, _ => by
    have : j = 0 := by simpa using hj
    subst this
    rfl
  | y :: rest, 0, _, _, h => by
    rcases h with h | ⟨_, h⟩
    · simp at h
    · simp only [List.getElem_cons_zero] at h
      simp [placeF, h]
  | y :: rest, j + 1, ha, hj, h => by
    have h0 := ha 0 (by simp) (by omega)
    simp only [List.getElem_cons_zero] at h0
    have ih := place_go key rest j (fun i hi hij => by have := ha (i + 1) (by simp; omega) (by omega); simpa using this) (by simpa using hj) (by
      rcases h with h | ⟨h1, h2⟩
      · left; simpa using h
      · right; exact ⟨by simpa using h1, by simpa using h2⟩)
    unfold placeF at ih ⊢
    rw [List.takeWhile_cons, h0]
    simp [ih]
/-- every key is short -/
def Short98 (L : List S98) : Prop := ∀ y ∈ L, y.f0.size ≤ 1099511627776
theorem short_without {key : ByteArray} {L : List S98} (h : Short98 L) : Short98 (withoutF key L) := fun y hy => h y (List.mem_filter.1 hy).1
theorem short_commit1 {seq : Int} {x : S101} {L : List S98} (h : Short98 L) (hx : x.f0.size ≤ 1099511627776) : Short98 (commit1 seq x L) := by
  unfold commit1
  split
  · exact short_without h
  · intro y hy
    unfold insF at hy
    rw [List.mem_append, List.mem_append, List.mem_singleton] at hy
    rcases hy with (hy | hy) | hy
    · exact short_without h y (List.mem_of_mem_take hy)
    · subst hy; exact hx
    · exact short_without h y (List.mem_of_mem_drop hy)
theorem short_commitF {seq : Int} (l : List S101) (hx : ∀ x ∈ l, x.f0.size ≤ 1099511627776) : ∀ {L : List S98}, Short98 L → Short98 (commitF seq l L) := by
  induction l with
  | nil => intro L h; exact h
  | cons x l ih => intro L h; exact ih (fun y hy => hx y (by simp [hy])) (short_commit1 h (hx x (by simp)))
theorem rd101o {l : List S101} {k : Nat} (h : k < l.length) : rd_T101 l (k : Int) = l[k] := by
  unfold rd_T101
  rw [List.getD_eq_getElem?_getD, Int.toNat_natCast, List.getElem?_eq_getElem h]
  rfl
theorem sz_of {w W : World} (h : Below w.heap.size w W) : w.heap.size ≤ W.heap.size := h.size
theorem le48 {j n : Nat} (hj : j ≤ n) (hn : n ≤ 1048576) : (([] : List S98).length + j) * 48 ≤ 140737488355328 := by
  simp only [List.length_nil]
  omega
theorem le48b {j n m : Nat} (he : m = j) (hj : j ≤ n) (hn : n ≤ 1048576) : (m + 1) * 48 ≤ 140737488355328 := by omega
theorem le48c {j n : Nat} {l : List S98} {x : S98} (he : l.length = j) (hj : j ≤ n) (hn : n ≤ 1048576) : ((l ++ [x]).length + (n - j)) * 48 ≤ 140737488355328 := by
  rw [List.length_append, List.length_singleton]
  omega
theorem len_b {l : List S98} {x : S98} {j : Nat} (h : l.length = j) : (l ++ [x]).length = j + 1 := by rw [List.length_append, h, List.length_singleton]
theorem len_c {R : List S98} {x : S98} {j : Nat} (h : (R.take j).length = j) (hj : j ≤ R.length) : (R.take j ++ [x] ++ R.drop j).length = R.length + 1 := by
  rw [List.length_append, List.length_append, h, List.length_singleton, List.length_drop]
  omega
theorem lit_reads {W w5 : World} {g : Nat} (x : S98) (h : W.heap[g]? = some (box98 x)) : ReadsRow (k98.K w5) 4 W (some ⟨g, 0, none⟩) 1 [x] := by
  refine ⟨rfl, by decide, fun _ => ⟨_, rfl, fun j p hj => ?_⟩⟩
  match j, hj with
  | 0, hj =>
    simp only [List.getElem?_cons_zero, Option.some.injEq] at hj
    subst hj
    refine ⟨[.string x.f0, .bool x.f1, .string x.f2, .int .u32 x.f3], rfl, k98_mk _ _, fun i u hu => ?_⟩
    rw [Addr.add_mid, Nat.zero_mul, Nat.zero_add, Nat.zero_add, Lib.cell_of_heap h i]
    simpa using hu
theorem new_lt (w5 : World) (o : Obj) : w5.heap.size < ((w5.alloc o).drew).heap.size := by
  show w5.heap.size < (w5.alloc o).heap.size
  simp
theorem nil_own {g : Nat} : some g ≠ (Value.slice none 0 0).ownBlock := by simp [Value.ownBlock]
theorem slice_head (A : Option Addr) (n c j : Nat) (hj : j ≤ n) (hc : n ≤ c) (W : World) : (Instr.slice 41 (.slice A n c) none (some (.int .i64 (j : Int))) none).run Tryd.prog W = .ok (.slice A j c) W := by
  rw [run_slice_h W 41 A n c (by kernel_rfl) .i64 (j : Int) (by omega) (by omega)]
  go_simp
theorem slice_tail (A : Option Addr) (n c j : Nat) (hj : j ≤ n) (W : World) : (Instr.slice 41 (.slice A n c) (some (.int .i64 (j : Int))) none none).run Tryd.prog W = .ok (.slice (if c = j then A else A.map (·.add (j * 4))) (n - j) (c - j)) W := by
  rw [run_slice_l W 41 A n c (by kernel_rfl) .i64 (j : Int) (by omega) (by omega)]
  go_simp
set_option maxHeartbeats 16000000 in
set_option maxRecDepth 100000 in
theorem ref_Commit (B b : Nat) (v : Value) (L : List S98) (seq : Int) (A : Option Addr) (c : Nat) (l : List S101) (w : World) (h : RefIs w B b v L) (hr : ∀ W, w.grownBy W (some b) → Kd.C k101 W A l.length l)
    (hL : L.length + l.length ≤ 1048576) (hsL : Short98 L) (hsl : ∀ x ∈ l, x.f0.size ≤ 1099511627776) :
    Calls Tryd.prog 70 #[.pointer (some ⟨b, 0, none⟩), .int .u32 seq, .slice A l.length c] w fun e w' => e = .returned (.tuple #[]) ∧ ∃ v', RefIs w' B b v' (commitF seq l L) ∧ w.grownBy w' (some b) := by
  go_enter Tryd.func70, Tryd.ntmps70
  go_wp2
  go_loopw [6] (fun i wr => ∃ (k : Nat) (v1 : Value), k ≤ l.length ∧ i = .int .i64 k ∧ RefIs wr B b v1 (commitF seq (l.take k) L) ∧ w.grownBy wr (some b)) (fun i _ => l.length - (intOf i).toNat)
  case atStart => exact ⟨0, v, Nat.zero_le _, rfl, h, World.grownBy.refl _ _⟩
  case round =>
    obtain ⟨k, v1, hkl, rfl, hI, hg⟩ := hrel
    by_cases hlt : k < l.length
    · obtain ⟨ad, e, x0, x1, x2⟩ := at_T101 (hr _ hg) k (by omega) (by omega)
      cases e
      rw [rd101o hlt] at x0 x1 x2
      have hsx := hsl _ (List.getElem_mem hlt)
      have hsn := commitF_snoc seq (l.take k) l[k] L
      rw [← List.take_succ_eq_append_getElem hlt] at hsn
      have zz1 : ∀ W, w.grownBy W (some b) → W.cell? (ad.add (k * 3)) = some (.string l[k].f0) ∧ W.cell? ⟨(ad.add (k * 3)).block, (ad.add (k * 3)).off + 2, none⟩ = some (.string l[k].f2) := fun W hW => by
        obtain ⟨ad', e', h0, _, h2⟩ := at_T101 (hr W hW) k (by omega) (by omega)
        obtain rfl : ad = ad' := by injection e'
        rw [rd101o hlt] at h0 h2
        exact ⟨h0, h2⟩
      obtain ⟨x, hx⟩ : ∃ x, x = l[k] := ⟨_, rfl⟩
      rw [← hx] at x0 x1 x2 hsx hsn zz1
      clear hx
      simp only [Int.toNat_natCast] at x0 x1 x2
      have hlen : (commitF seq (l.take k) L).length ≤ 1048576 := by
        have h1 := commitF_len seq (l.take k) L
        have h2 := List.length_take_le k l
        omega
      have hsM : Short98 (commitF seq (l.take k) L) := short_commitF _ (fun y hy => hsl y (List.mem_of_mem_take hy)) hsL
      have cb := hI.cell0
      obtain ⟨Av, cv, ev⟩ := Kd.R_slice hI.row
      subst ev
      have hCv := (Kd.R_reads' hI.row).2.2
      obtain ⟨xk, xd, xv⟩ := x
      have zz2 : ∀ W, w.grownBy W (some b) → W.cell? (ad.add (k * 3)) = some (.string xk) ∧ W.cell? ⟨(ad.add (k * 3)).block, (ad.add (k * 3)).off + 2, none⟩ = some (.string xv) := zz1
      clear zz1
      obtain ⟨M, hM⟩ : ∃ M, M = commitF seq (l.take k) L := ⟨_, rfl⟩
      rw [← hM] at hsn hlen hsM hCv hI cb
      clear hM
      go_wp2_with fail
      refine (ref_without b Av cv M xk wr cb hCv hlen).mono ?_
      rintro e w2 ⟨v2, rfl, hR2, hb2⟩
      have hI2 := hI.below hb2
      have f2 := hI2.free
      have cb2 := hI2.cell0
      have x1' := (hb2.cell (World.block_lt_of_cell? wr _ x1)).trans x1
      obtain ⟨A2, c2, ev2⟩ := Kd.R_slice hR2
      subst ev2
      cases xd
      · have hc1 : commit1 seq ⟨xk, false, xv⟩ M = insF seq ⟨xk, false, xv⟩ (withoutF xk M) := by simp [commit1]
        rw [hc1] at hsn
        have hRl := Nat.le_trans (withoutF_len xk M) hlen
        have hsR := short_without (key := xk) hsM
        have x0' := (hb2.cell (World.block_lt_of_cell? wr _ x0)).trans x0
        have x2' := (hb2.cell (World.block_lt_of_cell? wr _ x2)).trans x2
        clear hc1 x0 x1 x2
        generalize withoutF xk M = R at hR2 hsn hRl hsR ⊢
        have Hsn := Lib.hid hsn
        clear hsn
        obtain ⟨_, hc2, hC2⟩ := Kd.R_reads' hR2
        go_wp2
        obtain ⟨wo, rfl⟩ : ∃ wo : World, wo = wr := ⟨_, rfl⟩
        go_loopw [8] (fun i wi => ∃ j : Nat, j ≤ R.length ∧ i = .int .i64 j ∧ Hid (∀ i (h : i < R.length), i < j → aheadB R[i].f0 xk = true) ∧ Below w2.heap.size w2 wi) (fun i _ => R.length - (intOf i).toNat)
        case atStart => exact ⟨0, Nat.zero_le _, rfl, Lib.hid (fun i _ hi => absurd hi (Nat.not_lt_zero _)), Below.refl _ _⟩
        case round =>
          obtain ⟨j, hjl, rfl, Hah, hbi⟩ := hrel
          have x0w := (hbi.cell (World.block_lt_of_cell? w2 _ x0')).trans x0'
          have x2w := (hbi.cell (World.block_lt_of_cell? w2 _ x2')).trans x2'
          by_cases hlj : j < R.length
          · have hCi := Kd.C_below hC2 hbi
            obtain ⟨adv, e, y0, y1, y2, y3⟩ := at_T98 hCi j (by omega) (by omega)
            cases e
            rw [rd98 hlj] at y0 y1 y2 y3
            simp only [Int.toNat_natCast] at y0 y1 y2 y3
            have hcall := fun W => cachepotref1_Ahead.calls (R[j].f0.size + xk.size + 10) R[j].f0 xk _ W (ahead_f R[j].f0 xk (hsR _ (List.getElem_mem hlj)) hsx)
            obtain ⟨bo, hbo⟩ : ∃ bo, bo = aheadB R[j].f0 xk := ⟨_, rfl⟩
            rw [← hbo] at hcall
            have Hbo := Lib.hid hbo
            clear hbo
            have d1 : decide (j < R.length) = true := decide_eq_true hlj
            have d2 : decide ((j : Int) < (R.length : Int)) = true := decide_eq_true (by omega)
            cases bo
            · go_wp2
              go_still_tail 15, (by kernel_rfl)
              change wpList _ _ _ _ _ wr.drew
              go_wp2_with fail
              refine (hcall _).mono ?_
              rintro e w5 ⟨rfl, hb5⟩
              have hbx : Below w2.heap.size w2 w5 := below_then (below_drew hbi) (below_drew hbi).size hb5
              have hpl : placeF xk R = j := place_go xk R j Hah.out hjl (.inr ⟨hlj, Hbo.out.symm⟩)
              clear hcall Hbo y0 y1 y2 y3 d1 d2 Hah hCi
              go_wp2
              have hCx := Kd.C_below hC2 hbx
              have x0x := (hbx.cell (World.block_lt_of_cell? w2 _ x0')).trans x0'
              have x2x := (hbx.cell (World.block_lt_of_cell? w2 _ x2')).trans x2'
              have Hpl := Lib.hid hpl
              clear hpl
              have hs1 := slice_head (some adv) R.length c2 j hjl hc2
              have hs2 := slice_tail (some adv) R.length c2 j hjl
              have hjt : (R.take j).length = j := by rw [List.length_take]; omega
              have hT1 : ∀ W, Below w5.heap.size w5 W → ReadsRow (k98.K w5) 4 W (some adv) j (R.take j) := fun W hW => by
                have h := Kd.C_below (Kd.C_take hCx hjl) hW
                rw [hjt] at h
                exact h.imp_ (Below.refl _ _) (fun x cs hK => by obtain rfl := k98_open hK; exact k98_mk _ _)
              have hT2 : ∀ W, Below w5.heap.size w5 W → ReadsRow (k98.K w5) 4 W (if c2 = j then (some adv) else (some adv).map (·.add (j * 4))) (R.length - j) (R.drop j) := fun W hW => by
                have h := Kd.C_below (Kd.C_drop hCx hjl hc2) hW
                rw [List.length_drop] at h
                exact h.imp_ (Below.refl _ _) (fun x cs hK => by obtain rfl := k98_open hK; exact k98_mk _ _)
              have hKM : ∀ (W : World) (x : S98) (cs : List Value), k98.K w5 x cs → k98.M W w5.heap.size (fun _ => False) x cs := fun W x cs hK => by rw [k98_open hK]; exact k98_mkM _ _ _ _
              have hI5 := hI2.below hbx
              have cb5 := hI5.cell0
              have f5 := hI5.free
              have hgx := hg.trans (World.grownBy.trans (grown_of_below hb2 (some b)) (grown_of_below hbx (some b)))
              have zz : ∀ W, Below w5.heap.size w5 W → W.cell? (ad.add (k * 3)) = some (.string xk) ∧ W.cell? ⟨(ad.add (k * 3)).block, (ad.add (k * 3)).off + 2, none⟩ = some (.string xv) := fun W hW => zz2 W (hgx.trans (grown_of_below hW _))
              have Hjt := Lib.hid hjt
              clear hjt
              go_region_held3 (fun W => W.cell? (ad.add (k * 3)) = some (.string xk) ∧ W.cell? ⟨(ad.add (k * 3)).block, (ad.add (k * 3)).off + 2, none⟩ = some (.string xv) ) (first | exact zz _ (by first | assumption | exact Below.refl _ _ | exact below_drew (Below.refl _ _) | exact below_drew (by assumption) | exact below_drew (below_alloc (Below.refl _ _) _) | exact below_alloc (below_drew (Below.refl _ _)) _ | exact below_alloc (by assumption) _) | exact zz2 _ (hgx.trans (grown_put (by assumption) _)))
                (first
                  | (refine Kd.R_append_rows_step k98 (Rr := k98.K w5) (w0 := w5) w5.heap.size (by rfl) (.const (.slice none 0 0)) (.tmp 53) 41 98 (.agg #[(.string ⟨#[]⟩), (.bool false), (.string ⟨#[]⟩), (.int .u32 0)]) 48 (by rfl) Tryd.underlying41 info98 rfl (by decide) (by decide) (.slice none 0 0) [] (R.take j) (some adv) j c2 (fun _ => True) (fun _ => False) (by rfl) (by rfl) (Kd.R_nil _ _ _ _ _) (hT1 _ (by first | assumption | exact Below.refl _ _ | exact below_drew (Below.refl _ _) | exact below_drew (by assumption) | exact below_drew (below_alloc (Below.refl _ _) _) | exact below_alloc (below_drew (Below.refl _ _)) _)) (hKM _) (fun _ h => h.elim) (fun _ _ => trivial) (by first | assumption | exact Below.refl _ _ | exact below_drew (Below.refl _ _) | exact below_drew (by assumption) | exact below_drew (below_alloc (Below.refl _ _) _) | exact below_alloc (below_drew (Below.refl _ _)) _) (sz_of (by first | assumption | exact Below.refl _ _ | exact below_drew (Below.refl _ _) | exact below_drew (by assumption) | exact below_drew (below_alloc (Below.refl _ _) _) | exact below_alloc (below_drew (Below.refl _ _)) _)) (le48 hjl hRl) ?_; intro vA wA hRA hbA hgA _; rw [List.nil_append] at hRA; obtain ⟨AA, cA, eA⟩ := Kd.R_slice hRA; rw [Hjt.out] at eA; subst eA)
                  | (refine Kd.R_append_step k98 (w0 := w5) w5.heap.size ?_ (.tmp 54) (.tmp 67) 41 98 (.agg #[(.string ⟨#[]⟩), (.bool false), (.string ⟨#[]⟩), (.int .u32 0)]) 48 ?_ Tryd.underlying41 info98 rfl ?_ ?_ _ (R.take j) ⟨xk, true, xv, seq⟩ [.string xk, .bool true, .string xv, .int .u32 seq] (fun _ => True) (fun _ => False) ?_ ?_ (k98_mkM _ _ _ ⟨xk, true, xv, seq⟩) (fun _ hk => hk.elim) (fun _ _ => trivial) hRA hbA hbA.size (le48b Hjt.out hjl hRl) ?_; (rfl); (rfl); (decide); (decide); (rfl); (first | rfl | (go_simp; done) | (go_simp; rfl)); intro vB wB hRB hbB _ _; obtain ⟨AB, cB, eB⟩ := Kd.R_slice hRB; rw [len_b Hjt.out] at eB; subst eB)
                  | (refine Kd.R_append_rows_step k98 (Rr := k98.K w5) (w0 := w5) w5.heap.size ?_ (.tmp 54) (.tmp 67) 41 98 (.agg #[(.string ⟨#[]⟩), (.bool false), (.string ⟨#[]⟩), (.int .u32 0)]) 48 ?_ Tryd.underlying41 info98 rfl ?_ ?_ _ (R.take j) [⟨xk, true, xv, seq⟩] (some ⟨w5.heap.size, 0, none⟩) 1 1 (fun _ => True) (fun _ => False) ?_ ?_ hRA (lit_reads (w5 := w5) ⟨xk, true, xv, seq⟩ ((hgA.block w5.heap.size (new_lt _ _) nil_own).trans (heap_alloc_new w5 _))) (hKM _) (fun _ h => h.elim) (fun _ _ => trivial) hbA hbA.size (le48b Hjt.out hjl hRl) ?_; (rfl); (rfl); (decide); (decide); (rfl); (rfl); intro vB wB hRB hbB _ _; obtain ⟨AB, cB, eB⟩ := Kd.R_slice hRB; rw [len_b Hjt.out] at eB; subst eB)
                  | (refine Kd.R_append_rows_step k98 (Rr := k98.K w5) (w0 := w5) w5.heap.size ?_ (.tmp 68) (.tmp 71) 41 98 (.agg #[(.string ⟨#[]⟩), (.bool false), (.string ⟨#[]⟩), (.int .u32 0)]) 48 ?_ Tryd.underlying41 info98 rfl ?_ ?_ _ (R.take j ++ [⟨xk, true, xv, seq⟩]) (R.drop j) _ (R.length - j) (c2 - j) (fun _ => True) (fun _ => False) ?_ ?_ hRB (hT2 _ hbB) (hKM _) (fun _ h => h.elim) (fun _ _ => trivial) hbB hbB.size (le48c Hjt.out hjl hRl) ?_; (rfl); (rfl); (decide); (decide); (rfl); (rfl); intro vC wC hRC hbC _ _; obtain ⟨AC, cC, eC⟩ := Kd.R_slice hRC; rw [len_c Hjt.out hjl] at eC; subst eC; have cbC := (hI5.below hbC).cell0; have fC := (hI5.below hbC).free))
              all_goals (
                have hins : R.take j ++ [⟨xk, true, xv, seq⟩] ++ R.drop j = insF seq ⟨xk, false, xv⟩ R := by rw [insF, Hpl.out]
                have hI6 := hI5.put hbC hRC
                rw [hins, ← Hsn.out] at hI6
                have hg6 := hgx.trans (grown_put (b := b) hbC (.slice AC (R.length + 1) cC))
                clear hins hRC
                go_wp2
                go_roundw
                case rel => exact ⟨k + 1, _, hlt, by simp, hI6, hg6⟩
                case measure => simp [intOf]; omega)
            · go_wp2
              go_still_tail 15, (by kernel_rfl)
              change wpList _ _ _ _ _ wr.drew
              go_wp2_with fail
              refine (hcall _).mono ?_
              rintro e w5 ⟨rfl, hb5⟩
              have hbx : Below w2.heap.size w2 w5 := below_then (below_drew hbi) (below_drew hbi).size hb5
              have Hah2 : Hid (∀ i (h : i < R.length), i < j + 1 → aheadB R[i].f0 xk = true) := Lib.hid (fun i hi hij => by
                by_cases e : i = j
                · subst e; exact Hbo.out.symm
                · exact Hah.out i hi (by omega))
              clear hcall Hbo y0 y1 y2 y3 d1 d2 Hah hCi
              go_wp2
              go_roundw
              case rel => exact ⟨j + 1, hlj, by simp, Hah2, hbx⟩
              case measure => simp [intOf]; omega
          · have d1 : decide (j < R.length) = false := decide_eq_false hlj
            have d2 : decide ((j : Int) < (R.length : Int)) = false := decide_eq_false (by omega)
            have hpl : placeF xk R = j := place_go xk R j Hah.out hjl (.inl (by omega))
            clear Hah
            go_wp2
            go_quiet (fail)
            have hbx := pw_below_drewN hbi nq
            generalize wr.drewN nq = w5 at hbx ⊢
            clear d1 d2
            go_wp2
            have hCx := Kd.C_below hC2 hbx
            have x0x := (hbx.cell (World.block_lt_of_cell? w2 _ x0')).trans x0'
            have x2x := (hbx.cell (World.block_lt_of_cell? w2 _ x2')).trans x2'
            have Hpl := Lib.hid hpl
            clear hpl
            have hs1 := slice_head A2 R.length c2 j hjl hc2
            have hs2 := slice_tail A2 R.length c2 j hjl
            have hjt : (R.take j).length = j := by rw [List.length_take]; omega
            have hT1 : ∀ W, Below w5.heap.size w5 W → ReadsRow (k98.K w5) 4 W A2 j (R.take j) := fun W hW => by
              have h := Kd.C_below (Kd.C_take hCx hjl) hW
              rw [hjt] at h
              exact h.imp_ (Below.refl _ _) (fun x cs hK => by obtain rfl := k98_open hK; exact k98_mk _ _)
            have hT2 : ∀ W, Below w5.heap.size w5 W → ReadsRow (k98.K w5) 4 W (if c2 = j then A2 else A2.map (·.add (j * 4))) (R.length - j) (R.drop j) := fun W hW => by
              have h := Kd.C_below (Kd.C_drop hCx hjl hc2) hW
              rw [List.length_drop] at h
              exact h.imp_ (Below.refl _ _) (fun x cs hK => by obtain rfl := k98_open hK; exact k98_mk _ _)
            have hKM : ∀ (W : World) (x : S98) (cs : List Value), k98.K w5 x cs → k98.M W w5.heap.size (fun _ => False) x cs := fun W x cs hK => by rw [k98_open hK]; exact k98_mkM _ _ _ _
            have hI5 := hI2.below hbx
            have cb5 := hI5.cell0
            have f5 := hI5.free
            have hgx := hg.trans (World.grownBy.trans (grown_of_below hb2 (some b)) (grown_of_below hbx (some b)))
            have zz : ∀ W, Below w5.heap.size w5 W → W.cell? (ad.add (k * 3)) = some (.string xk) ∧ W.cell? ⟨(ad.add (k * 3)).block, (ad.add (k * 3)).off + 2, none⟩ = some (.string xv) := fun W hW => zz2 W (hgx.trans (grown_of_below hW _))
            have Hjt := Lib.hid hjt
            clear hjt
            go_region_held3 (fun W => W.cell? (ad.add (k * 3)) = some (.string xk) ∧ W.cell? ⟨(ad.add (k * 3)).block, (ad.add (k * 3)).off + 2, none⟩ = some (.string xv) ) (first | exact zz _ (by first | assumption | exact Below.refl _ _ | exact below_drew (Below.refl _ _) | exact below_drew (by assumption) | exact below_drew (below_alloc (Below.refl _ _) _) | exact below_alloc (below_drew (Below.refl _ _)) _ | exact below_alloc (by assumption) _) | exact zz2 _ (hgx.trans (grown_put (by assumption) _)))
              (first
                | (refine Kd.R_append_rows_step k98 (Rr := k98.K w5) (w0 := w5) w5.heap.size (by rfl) (.const (.slice none 0 0)) (.tmp 53) 41 98 (.agg #[(.string ⟨#[]⟩), (.bool false), (.string ⟨#[]⟩), (.int .u32 0)]) 48 (by rfl) Tryd.underlying41 info98 rfl (by decide) (by decide) (.slice none 0 0) [] (R.take j) A2 j c2 (fun _ => True) (fun _ => False) (by rfl) (by rfl) (Kd.R_nil _ _ _ _ _) (hT1 _ (by first | assumption | exact Below.refl _ _ | exact below_drew (Below.refl _ _) | exact below_drew (by assumption) | exact below_drew (below_alloc (Below.refl _ _) _) | exact below_alloc (below_drew (Below.refl _ _)) _)) (hKM _) (fun _ h => h.elim) (fun _ _ => trivial) (by first | assumption | exact Below.refl _ _ | exact below_drew (Below.refl _ _) | exact below_drew (by assumption) | exact below_drew (below_alloc (Below.refl _ _) _) | exact below_alloc (below_drew (Below.refl _ _)) _) (sz_of (by first | assumption | exact Below.refl _ _ | exact below_drew (Below.refl _ _) | exact below_drew (by assumption) | exact below_drew (below_alloc (Below.refl _ _) _) | exact below_alloc (below_drew (Below.refl _ _)) _)) (le48 hjl hRl) ?_; intro vA wA hRA hbA hgA _; rw [List.nil_append] at hRA; obtain ⟨AA, cA, eA⟩ := Kd.R_slice hRA; rw [Hjt.out] at eA; subst eA)
                | (refine Kd.R_append_step k98 (w0 := w5) w5.heap.size ?_ (.tmp 54) (.tmp 67) 41 98 (.agg #[(.string ⟨#[]⟩), (.bool false), (.string ⟨#[]⟩), (.int .u32 0)]) 48 ?_ Tryd.underlying41 info98 rfl ?_ ?_ _ (R.take j) ⟨xk, true, xv, seq⟩ [.string xk, .bool true, .string xv, .int .u32 seq] (fun _ => True) (fun _ => False) ?_ ?_ (k98_mkM _ _ _ ⟨xk, true, xv, seq⟩) (fun _ hk => hk.elim) (fun _ _ => trivial) hRA hbA hbA.size (le48b Hjt.out hjl hRl) ?_; (rfl); (rfl); (decide); (decide); (rfl); (first | rfl | (go_simp; done) | (go_simp; rfl)); intro vB wB hRB hbB _ _; obtain ⟨AB, cB, eB⟩ := Kd.R_slice hRB; rw [len_b Hjt.out] at eB; subst eB)
                | (refine Kd.R_append_rows_step k98 (Rr := k98.K w5) (w0 := w5) w5.heap.size ?_ (.tmp 54) (.tmp 67) 41 98 (.agg #[(.string ⟨#[]⟩), (.bool false), (.string ⟨#[]⟩), (.int .u32 0)]) 48 ?_ Tryd.underlying41 info98 rfl ?_ ?_ _ (R.take j) [⟨xk, true, xv, seq⟩] (some ⟨w5.heap.size, 0, none⟩) 1 1 (fun _ => True) (fun _ => False) ?_ ?_ hRA (lit_reads (w5 := w5) ⟨xk, true, xv, seq⟩ ((hgA.block w5.heap.size (new_lt _ _) nil_own).trans (heap_alloc_new w5 _))) (hKM _) (fun _ h => h.elim) (fun _ _ => trivial) hbA hbA.size (le48b Hjt.out hjl hRl) ?_; (rfl); (rfl); (decide); (decide); (rfl); (rfl); intro vB wB hRB hbB _ _; obtain ⟨AB, cB, eB⟩ := Kd.R_slice hRB; rw [len_b Hjt.out] at eB; subst eB)
                | (refine Kd.R_append_rows_step k98 (Rr := k98.K w5) (w0 := w5) w5.heap.size ?_ (.tmp 68) (.tmp 71) 41 98 (.agg #[(.string ⟨#[]⟩), (.bool false), (.string ⟨#[]⟩), (.int .u32 0)]) 48 ?_ Tryd.underlying41 info98 rfl ?_ ?_ _ (R.take j ++ [⟨xk, true, xv, seq⟩]) (R.drop j) _ (R.length - j) (c2 - j) (fun _ => True) (fun _ => False) ?_ ?_ hRB (hT2 _ hbB) (hKM _) (fun _ h => h.elim) (fun _ _ => trivial) hbB hbB.size (le48c Hjt.out hjl hRl) ?_; (rfl); (rfl); (decide); (decide); (rfl); (rfl); intro vC wC hRC hbC _ _; obtain ⟨AC, cC, eC⟩ := Kd.R_slice hRC; rw [len_c Hjt.out hjl] at eC; subst eC; have cbC := (hI5.below hbC).cell0; have fC := (hI5.below hbC).free))
            all_goals (
              have hins : R.take j ++ [⟨xk, true, xv, seq⟩] ++ R.drop j = insF seq ⟨xk, false, xv⟩ R := by rw [insF, Hpl.out]
              have hI6 := hI5.put hbC hRC
              rw [hins, ← Hsn.out] at hI6
              have hg6 := hgx.trans (grown_put (b := b) hbC (.slice AC (R.length + 1) cC))
              clear hins hRC
              go_wp2
              go_roundw
              case rel => exact ⟨k + 1, _, hlt, by simp, hI6, hg6⟩
              case measure => simp [intOf]; omega)
      · have hI3 := hI.put hb2 hR2
        have hg3 := hg.trans (grown_put (b := b) hb2 (.slice A2 (withoutF xk M).length c2))
        have hc1 : commit1 seq ⟨xk, true, xv⟩ M = withoutF xk M := by simp [commit1]
        rw [hc1] at hsn
        have Hsn := Lib.hid hsn
        clear hsn hc1
        go_wp2
        go_roundw
        case rel => exact ⟨k + 1, _, hlt, by simp, by rw [Hsn.out]; exact hI3, hg3⟩
        case measure => simp [intOf]; omega
    · have hke : k = l.length := by omega
      subst hke
      rw [List.take_length] at hI
      go_wp2
      go_end0
      exact ⟨rfl, v1, hI, hg⟩
end Go.Proofs.YtfaelejeihmgcaaDoor.Lgx
end

section
namespace Go.Proofs.YtfaelejeihmgcaaDoor.Atm
open Go.RowKit Go.Maps
/-- what a key has: whether, the value, the batch -/
abbrev Had := Bool × ByteArray × Int
def nought : Had := (false, ⟨#[]⟩, 0)
def datum (x : Had) : DataW Unit := .agg [.lit (.bool x.1), .lit (.string x.2.1.data.toList), .lit (.int .u32 x.2.2)]
theorem bytes_inj {a b : ByteArray} (h : a.data.toList = b.data.toList) : a = b := by
  obtain ⟨⟨a⟩⟩ := a
  obtain ⟨⟨b⟩⟩ := b
  simp at h
  rw [h]
theorem datum_inj {x y : Had} (h : datum x = datum y) : x = y := by
  obtain ⟨a, b, c⟩ := x
  obtain ⟨a', b', c'⟩ := y
  simp only [datum, DataW.agg.injEq, List.cons.injEq, DataW.lit.injEq, Lit.bool.injEq, Lit.string.injEq, Lit.int.injEq, and_true, true_and] at h
  obtain ⟨h1, h2, h3⟩ := h
  rw [h1, bytes_inj h2, h3]
/-- How an element reads: its own key is not looked at. -/
def ansElem : Value → Option (DataW Unit × List MemPlace)
  | .agg ⟨[.string _, .bool i, .string s, .int .u32 f]⟩ => some (datum (i, s, f), [])
  | _ => none
def ansVal (k : ByteArray) (x : Had) : Value := .agg #[.string k, .bool x.1, .string x.2.1, .int .u32 x.2.2]
theorem ansElem_mk (k : ByteArray) (x : Had) : ansElem (ansVal k x) = some (datum x, []) := rfl
theorem ansElem_inv {v : Value} {z : DataW Unit × List MemPlace} (h : ansElem v = some z) : ∃ k x, v = ansVal k x ∧ z = (datum x, []) := by
  unfold ansElem at h
  split at h
  · rename_i k i s f
    cases h
    exact ⟨k, (i, s, f), rfl, rfl⟩
  · cases h
theorem law : Keyed Tryd.prog 9 := string_keyed Tryd.underlying9
theorem zeroE (w : World) : (zeroValue 98).run Tryd.prog w = .ok (ansVal ⟨#[]⟩ nought) w := by kernel_rfl
/-- Block b is a map of at most n entries that tells M. -/
structure MapIs (w : World) (b n : Nat) (M : ByteArray → Had) : Prop where
  out : ∃ D, w.ownsMap Tryd.prog 9 ansElem b n D ∧ ∀ k : ByteArray, D.atKey (.string k.data.toList) (datum nought) = datum (M k)
def putM (M : ByteArray → Had) (k : ByteArray) (x : Had) : ByteArray → Had := fun k' => if k' = k then x else M k'
theorem MapIs.made (w : World) : MapIs (w.alloc (.map #[] 0)) w.heap.size 0 (fun _ => nought) :=
  ⟨_, World.ownsMap_made w Tryd.prog 9 ansElem, fun _ => rfl⟩
theorem MapIs.lt {w : World} {b n : Nat} {M : ByteArray → Had} (h : MapIs w b n M) : b < w.heap.size := by
  obtain ⟨D, h, _⟩ := h
  exact h.lt
theorem MapIs.mono {w : World} {b n n' : Nat} {M : ByteArray → Had} (h : MapIs w b n M) (hn : n ≤ n') : MapIs w b n' M := by
  obtain ⟨D, h, hM⟩ := h
  exact ⟨D, h.mono hn, hM⟩
theorem MapIs.move {w w' : World} {b n : Nat} {M : ByteArray → Had} (h : MapIs w b n M) (he : w'.heap[b]? = w.heap[b]?) : MapIs w' b n M := by
  obtain ⟨D, ⟨es, clock, hb, r⟩, hM⟩ := h
  exact ⟨D, ⟨es, clock, he.trans hb, r⟩, hM⟩
theorem MapIs.below {w w' : World} {b n : Nat} {M : ByteArray → Had} (h : MapIs w b n M) (hb : Below w.heap.size w w') : MapIs w' b n M := h.move (hb.block b h.lt)
theorem MapIs.is_map {w : World} {b n : Nat} {M : ByteArray → Had} (h : MapIs w b n M) : ∃ es clock, w.heap[b]? = some (.map es clock) := by
  obtain ⟨D, ⟨es, clock, hb, _⟩, _⟩ := h
  exact ⟨es, clock, hb⟩
theorem keyed (k : ByteArray) (hk : k.size ≤ maxLen) : keyOf Tryd.prog 9 (.string k) = some (.string k.data.toList) := WideMaps.keyOf_string_mk Tryd.underlying9 hk
theorem lit_ne {k k' : ByteArray} (h : k' ≠ k) : Lit.string k'.data.toList ≠ Lit.string k.data.toList := fun e => h (bytes_inj (by simpa using e))
section
variable {ops : Array Oper} {rest : List Oper} {o : Oper} {a : Act} {Q : Exit → Act → World → Prop}
/-- 'm[k]' -/
theorem wpList_look (w : World) (hg : o.guard = none) (m x : Operand) (hop : o.op = Op.lookup 142 m x false) (b n : Nat) (M : ByteArray → Had)
    (hm : a.eval m = .map (some b)) (h : MapIs w b n M) (k : ByteArray) (hx : a.eval x = .string k) (hk : k.size ≤ maxLen)
    (hK : ∀ k', wpList Tryd.prog ops Q rest (a.put o.dst (ansVal k' (M k))) w) :
    wpList Tryd.prog ops Q (o :: rest) a w := by
  refine wpList_plain hg fun K' hK' => ?_
  obtain ⟨D, hown, hM⟩ := h
  obtain ⟨v, ps, hrun, hv⟩ := hown.lookup law Tryd.underlying142 (zeroE w) (ansElem_mk _ _) (keyed k hk)
  obtain ⟨k', y, rfl, hz⟩ := ansElem_inv hv
  rw [hM k] at hz
  simp only [Prod.mk.injEq] at hz
  obtain rfl := datum_inj hz.1
  unfold Oper.wp
  simp [execOp, hop, hm, hx, hrun, Result.andThen]
  exact hK' _ _ (hK k')
/-- 'm[k] = v' -/
theorem wpList_put (w : World) (hg : o.guard = none) (m x v : Operand) (hop : o.op = Op.mapUpdate 142 m x v) (b n : Nat) (M : ByteArray → Had)
    (hm : a.eval m = .map (some b)) (h : MapIs w b n M) (hn : n < maxLen) (k k' : ByteArray) (y : Had) (hx : a.eval x = .string k) (hv : a.eval v = ansVal k' y) (hk : k.size ≤ maxLen)
    (hK : ∀ w', MapIs w' b (n + 1) (putM M k y) → w.grownBy w' (some b) → wpList Tryd.prog ops Q rest (a.put o.dst undef) w') :
    wpList Tryd.prog ops Q (o :: rest) a w := by
  obtain ⟨D, hown, hM⟩ := h
  refine wpList_mapUpdate_in w hg m x v 142 hop 9 98 law Tryd.underlying142 ansElem b n D hm hown hn _ _ _ hx hv (keyed k hk) _ _ (ansElem_mk k' y) ?_
  intro w' h1 ht
  refine hK w' ⟨_, h1, fun q => ?_⟩ ht.grown
  unfold putM
  by_cases hq : q = k
  · subst hq
    rw [if_pos rfl]
    exact atKey_put_same hown.isMap (law.key (keyed q hk)) _ _
  · rw [if_neg hq, atKey_put_other (lit_ne hq)]
    exact hM q
/-- 'delete(m, k)' -/
theorem wpList_del (w : World) (hg : o.guard = none) (m x : Operand) (hop : o.op = Op.call { callee := Callee.builtin Builtin.delete, args := #[m, x], argTypes := #[142, 9] }) (b n : Nat) (M : ByteArray → Had)
    (hm : a.eval m = .map (some b)) (h : MapIs w b n M) (k : ByteArray) (hx : a.eval x = .string k) (hk : k.size ≤ maxLen)
    (hK : ∀ w', MapIs w' b n (putM M k nought) → w.grownBy w' (some b) → wpList Tryd.prog ops Q rest (a.put o.dst (.tuple #[])) w') :
    wpList Tryd.prog ops Q (o :: rest) a w := by
  obtain ⟨D, hown, hM⟩ := h
  refine wpList_delete_own w hg m x 142 9 hop 98 law Tryd.underlying142 ansElem b n D hm hown _ _ hx (keyed k hk) ?_
  intro w' h1 ht
  refine hK w' ⟨_, h1, fun q => ?_⟩ ht.grown
  unfold putM
  by_cases hq : q = k
  · subst hq
    rw [if_pos rfl]
    exact atKey_del_same _
  · rw [if_neg hq, atKey_del_other (lit_ne hq)]
    exact hM q
end
end Go.Proofs.YtfaelejeihmgcaaDoor.Atm
end

section
namespace Go.Proofs.YtfaelejeihmgcaaDoor.Lgx
open Go.RowKit Go.Proofs.YtfaelejeihmgcaaDoorW.PrintWords Go.Proofs.YtfaelejeihmgcaaDoorW.PrintLast
open Atm (MapIs Had nought putM ansVal)
/-- A pointer to a Map in block b, whose map is block m. -/
structure AtomIs (w : World) (b m n : Nat) (M : ByteArray → Had) : Prop where
  cell : w.heap[b]? = some (.cells #[.map (some m)] 144 (0, 0))
  map : MapIs w m n M
theorem AtomIs.lt {w : World} {b m n : Nat} {M : ByteArray → Had} (h : AtomIs w b m n M) : b < w.heap.size := (Array.getElem?_eq_some_iff.1 h.cell).1
theorem AtomIs.ne {w : World} {b m n : Nat} {M : ByteArray → Had} (h : AtomIs w b m n M) : b ≠ m := fun e => by
  subst e
  obtain ⟨es, clock, hb⟩ := h.map.is_map
  have := h.cell.symm.trans hb
  cases this
theorem AtomIs.below {w w' : World} {b m n : Nat} {M : ByteArray → Had} (h : AtomIs w b m n M) (hb : Below w.heap.size w w') : AtomIs w' b m n M :=
  ⟨(hb.block b h.lt).trans h.cell, h.map.below hb⟩
theorem AtomIs.cell0 {w : World} {b m n : Nat} {M : ByteArray → Had} (h : AtomIs w b m n M) : w.cell? ⟨b, 0, none⟩ = some (.map (some m)) := by
  simp [World.cell?, h.cell]
/-- the map is written -/
theorem AtomIs.put {w w' : World} {b m n n' : Nat} {M M' : ByteArray → Had} (h : AtomIs w b m n M) (hm : MapIs w' m n' M') (hg : w.grownBy w' (some m)) : AtomIs w' b m n' M' :=
  ⟨(hg.block b h.lt (fun e => h.ne (Option.some.inj e))).trans h.cell, hm⟩
theorem atom_New (w : World) :
    Calls Tryd.prog 72 #[] w fun e w' => e = .returned (.pointer (some ⟨w.heap.size + 1, 0, none⟩)) ∧ AtomIs w' (w.heap.size + 1) w.heap.size 0 (fun _ => nought) ∧ Below w.heap.size w w' := by
  have hmm := @run_makeMap Tryd.prog
  go_enter Tryd.func72, Tryd.ntmps72
  go_wp2
  go_ret
  refine ⟨rfl, ⟨?_, (MapIs.made w).below (below_alloc (Below.refl _ _) _)⟩, below_alloc (below_alloc (Below.refl _ _) _) _⟩
  have h := heap_alloc_new (w.alloc (Obj.map #[] 0)) (Obj.cells #[Value.map (some w.heap.size)] 144)
  rwa [show (w.alloc (Obj.map #[] 0)).heap.size = w.heap.size + 1 by simp] at h
def commitM (seq : Int) : List S101 → (ByteArray → Had) → (ByteArray → Had)
  | [], M => M
  | x :: l, M => commitM seq l (putM M x.f0 (if x.f1 then nought else (true, x.f2, seq)))
theorem commitM_snoc (seq : Int) (l : List S101) (x : S101) : ∀ M, commitM seq (l ++ [x]) M = putM (commitM seq l M) x.f0 (if x.f1 then nought else (true, x.f2, seq)) := by
  induction l with
  | nil => intro M; rfl
  | cons y l ih => intro M; exact ih _
theorem rd101 {l : List S101} {k : Nat} (h : k < l.length) : rd_T101 l (k : Int) = l[k] := by
  unfold rd_T101
  rw [List.getD_eq_getElem?_getD, Int.toNat_natCast, List.getElem?_eq_getElem h]
  rfl
set_option maxHeartbeats 4000000 in
set_option maxRecDepth 100000 in
theorem atom_Commit (b m n : Nat) (M : ByteArray → Had) (seq : Int) (A : Option Addr) (c : Nat) (l : List S101) (w : World) (hA : AtomIs w b m n M) (hr : ∀ W, w.grownBy W (some m) → Kd.C k101 W A l.length l)
    (hk : ∀ x ∈ l, x.f0.size ≤ maxLen) (hn : n + l.length < maxLen) :
    Calls Tryd.prog 73 #[.pointer (some ⟨b, 0, none⟩), .int .u32 seq, .slice A l.length c] w fun e w' => e = .returned (.tuple #[]) ∧ AtomIs w' b m (n + l.length) (commitM seq l M) ∧ w.grownBy w' (some m) := by
  have cb := hA.cell0
  have q0 := fun (w : World) (r : Option Nat) => run_eql_map_nil (P := Tryd.prog) w 142 9 98 r Tryd.underlying142
  have hl : l.length ≤ 9223372036854775807 := by unfold maxLen at hn; omega
  go_enter Tryd.func73, Tryd.ntmps73
  go_wp2
  go_loopw [21] (fun i wr => ∃ k : Nat, k ≤ l.length ∧ i = .int .i64 k ∧ AtomIs wr b m (n + k) (commitM seq (l.take k) M) ∧ w.grownBy wr (some m)) (fun i _ => l.length - (intOf i).toNat)
  case atStart => exact ⟨0, Nat.zero_le _, rfl, hA, World.grownBy.refl _ _⟩
  case round =>
    obtain ⟨k, hkl, rfl, hI, hg⟩ := hrel
    by_cases hlt : k < l.length
    · obtain ⟨ad, e, c0, c1, c2⟩ := at_T101 (hr _ hg) k (by omega) (by omega)
      cases e
      rw [rd101 hlt] at c0 c1 c2
      have hkk := hk _ (List.getElem_mem hlt)
      have hsn := commitM_snoc seq (l.take k) l[k] M
      rw [← List.take_succ_eq_append_getElem hlt] at hsn
      obtain ⟨x, hx⟩ : ∃ x, x = l[k] := ⟨_, rfl⟩
      rw [← hx] at c0 c1 c2 hkk hsn
      have Hsn := Lib.hid hsn
      have Hx := Lib.hid hx
      clear hsn hx
      simp only [Int.toNat_natCast] at c0 c1 c2
      have cb1 := hI.cell0
      have hblt := hI.lt
      obtain ⟨xk, xd, xv⟩ := x
      cases xd
      · go_wp2_with fail
        have hIW := hI.below (below_alloc (Below.refl _ _) (Obj.cells #[Value.string xk, Value.bool false, Value.string xv] 101))
        have hgW := hg.trans (World.grownBy_alloc wr (Obj.cells #[Value.string xk, Value.bool false, Value.string xv] 101) (some m))
        have g0 := Lib.cell_of_heap (heap_alloc_new wr (Obj.cells #[Value.string xk, Value.bool false, Value.string xv] 101)) 0
        have g2 := Lib.cell_of_heap (heap_alloc_new wr (Obj.cells #[Value.string xk, Value.bool false, Value.string xv] 101)) 2
        simp only [List.getElem?_toArray, List.getElem?_cons_zero, List.getElem?_cons_succ] at g0 g2
        generalize wr.alloc (Obj.cells #[Value.string xk, Value.bool false, Value.string xv] 101) = W at hIW hgW g0 g2 ⊢
        have cbW := hIW.cell0
        go_still_tail 12, (by kernel_rfl)
        change wpList _ _ _ _ _ W.drew
        refine Atm.wpList_put _ rfl _ _ _ rfl m (n + k) _ rfl (hIW.map.below (below_drew (Below.refl _ _))) (by omega) xk xk (true, xv, seq) rfl rfl hkk ?_
        intro w1 hm1 hg1
        have hA1 := AtomIs.put (hIW.below (below_drew (Below.refl _ _))) hm1 hg1
        have hg2 := hgW.trans (World.grownBy.trans ((grown_of_below (below_drew (Below.refl _ _)) _)) hg1)
        clear hm1 hg1
        go_wp2
        go_roundw
        case rel => exact ⟨k + 1, hlt, by simp, by rw [Hsn.out]; exact hA1, hg2⟩
        case measure => simp [intOf]; omega
      · go_wp2_with fail
        have hIW := hI.below (below_alloc (Below.refl _ _) (Obj.cells #[Value.string xk, Value.bool true, Value.string xv] 101))
        have hgW := hg.trans (World.grownBy_alloc wr (Obj.cells #[Value.string xk, Value.bool true, Value.string xv] 101) (some m))
        have g0 := Lib.cell_of_heap (heap_alloc_new wr (Obj.cells #[Value.string xk, Value.bool true, Value.string xv] 101)) 0
        have g2 := Lib.cell_of_heap (heap_alloc_new wr (Obj.cells #[Value.string xk, Value.bool true, Value.string xv] 101)) 2
        simp only [List.getElem?_toArray, List.getElem?_cons_zero, List.getElem?_cons_succ] at g0 g2
        generalize wr.alloc (Obj.cells #[Value.string xk, Value.bool true, Value.string xv] 101) = W at hIW hgW g0 g2 ⊢
        have cbW := hIW.cell0
        go_still_tail 6, (by kernel_rfl)
        change wpList _ _ _ _ _ W.drew
        refine Atm.wpList_del _ rfl _ _ rfl m (n + k) _ rfl (hIW.map.below (below_drew (Below.refl _ _))) xk rfl hkk ?_
        intro w1 hm1 hg1
        have hA1 := AtomIs.put (hIW.below (below_drew (Below.refl _ _))) (hm1.mono (Nat.le_succ _)) hg1
        have hg2 := hgW.trans (World.grownBy.trans ((grown_of_below (below_drew (Below.refl _ _)) _)) hg1)
        clear hm1 hg1
        go_wp2
        go_roundw
        case rel => exact ⟨k + 1, hlt, by simp, by rw [Hsn.out]; exact hA1, hg2⟩
        case measure => simp [intOf]; omega
    · have hke : k = l.length := by omega
      subst hke
      rw [List.take_length] at hI
      go_wp2
      go_end0
      exact ⟨rfl, hI, hg⟩
def forgetM : List ByteArray → (ByteArray → Had) → (ByteArray → Had)
  | [], M => M
  | x :: l, M => forgetM l (putM M x nought)
theorem forgetM_snoc (l : List ByteArray) (x : ByteArray) : ∀ M, forgetM (l ++ [x]) M = putM (forgetM l M) x nought := by
  induction l with
  | nil => intro M; rfl
  | cons y l ih => intro M; exact ih _
theorem rdstr {l : List ByteArray} {k : Nat} (h : k < l.length) : rdOf ByteArray.empty l (k : Int) = l[k] := by
  unfold rdOf
  rw [List.getD_eq_getElem?_getD, Int.toNat_natCast, List.getElem?_eq_getElem h]
  rfl
set_option maxHeartbeats 4000000 in
set_option maxRecDepth 100000 in
theorem atom_Forget (b m n : Nat) (M : ByteArray → Had) (A : Option Addr) (c : Nat) (l : List ByteArray) (w : World) (hA : AtomIs w b m n M) (hr : ∀ W, w.grownBy W (some m) → Kd.C Kd.string W A l.length l)
    (hk : ∀ x ∈ l, x.size ≤ maxLen) (hl : l.length ≤ 9223372036854775807) :
    Calls Tryd.prog 74 #[.pointer (some ⟨b, 0, none⟩), .slice A l.length c] w fun e w' => e = .returned (.tuple #[]) ∧ AtomIs w' b m n (forgetM l M) ∧ w.grownBy w' (some m) := by
  have cb := hA.cell0
  go_enter Tryd.func74, Tryd.ntmps74
  go_wp2
  go_loopw [10] (fun i wr => ∃ k : Nat, k ≤ l.length ∧ i = .int .i64 k ∧ AtomIs wr b m n (forgetM (l.take k) M) ∧ w.grownBy wr (some m)) (fun i _ => l.length - (intOf i).toNat)
  case atStart => exact ⟨0, Nat.zero_le _, rfl, hA, World.grownBy.refl _ _⟩
  case round =>
    obtain ⟨k, hkl, rfl, hI, hg⟩ := hrel
    by_cases hlt : k < l.length
    · obtain ⟨ad, e, c0⟩ := Kd.at_string (hr _ hg) k (by omega) (by omega)
      cases e
      rw [rdstr hlt] at c0
      have hkk := hk _ (List.getElem_mem hlt)
      have hsn := forgetM_snoc (l.take k) l[k] M
      rw [← List.take_succ_eq_append_getElem hlt] at hsn
      obtain ⟨x, hx⟩ : ∃ x, x = l[k] := ⟨_, rfl⟩
      rw [← hx] at c0 hkk hsn
      have Hsn := Lib.hid hsn
      clear hsn hx
      simp only [Int.toNat_natCast] at c0
      have cb1 := hI.cell0
      go_wp2_with (at_delete; refine Atm.wpList_del _ rfl _ _ rfl m n _ rfl hI.map x rfl hkk ?_)
      intro w1 hm1 hg1
      have hA1 := AtomIs.put hI hm1 hg1
      have hg2 := hg.trans hg1
      clear hm1 hg1
      go_wp2
      go_roundw
      case rel => exact ⟨k + 1, hlt, by simp, by rw [Hsn.out]; exact hA1, hg2⟩
      case measure => simp [intOf]; omega
    · have hke : k = l.length := by omega
      subst hke
      rw [List.take_length] at hI
      go_wp2
      go_end0
      exact ⟨rfl, hI, hg⟩
def getM (M : ByteArray → Had) (l : List ByteArray) : List S98 := l.map fun k => ⟨k, (M k).1, (M k).2.1, (M k).2.2⟩
set_option maxHeartbeats 4000000 in
set_option maxRecDepth 100000 in
theorem atom_Get (b m n : Nat) (M : ByteArray → Had) (A : Option Addr) (c : Nat) (l : List ByteArray) (w : World) (hA : AtomIs w b m n M) (hr : Kd.C Kd.string w A l.length l)
    (hk : ∀ x ∈ l, x.size ≤ maxLen) (hl : l.length ≤ 1048576) :
    Calls Tryd.prog 76 #[.pointer (some ⟨b, 0, none⟩), .slice A l.length c] w fun e w' => ∃ v : Value, e = .returned v ∧ Kd.R k98 98 w' w.heap.size (fun _ => True) v (getM M l) ∧ Below w.heap.size w w' := by
  have cb := hA.cell0
  go_enter Tryd.func76, Tryd.ntmps76
  go_wp2
  go_loopw [5, 13] (fun v i wr => ∃ k : Nat, k ≤ l.length ∧ i = .int .i64 k ∧ Kd.R k98 98 wr w.heap.size (fun _ => True) v (getM M (l.take k)) ∧ Below w.heap.size w wr) (fun _ i _ => l.length - (intOf i).toNat)
  case atStart => exact ⟨0, Nat.zero_le _, rfl, Kd.R_nil _ _ _ _ _, Below.refl _ _⟩
  case round =>
    obtain ⟨k, hkl, rfl, hR, hb⟩ := hrel
    have hI := hA.below hb
    have cb1 := hI.cell0
    by_cases hlt : k < l.length
    · obtain ⟨ad, e, c0⟩ := Kd.at_string (Kd.C_below hr hb) k (by omega) (by omega)
      cases e
      rw [rdstr hlt] at c0
      have hkk := hk _ (List.getElem_mem hlt)
      have hsn : getM M (l.take (k + 1)) = getM M (l.take k) ++ [⟨l[k], (M l[k]).1, (M l[k]).2.1, (M l[k]).2.2⟩] := by
        rw [List.take_succ_eq_append_getElem hlt]
        simp only [getM, List.map_append, List.map_cons, List.map_nil]
      obtain ⟨x, hx⟩ : ∃ x, x = l[k] := ⟨_, rfl⟩
      rw [← hx] at c0 hkk hsn
      obtain ⟨mi, mv, mf, hmx⟩ : ∃ mi mv mf, M x = (mi, mv, mf) := ⟨_, _, _, rfl⟩
      rw [hmx] at hsn
      have Hmx := Lib.hid hmx
      clear hmx
      have Hsn := Lib.hid hsn
      clear hsn hx
      simp only [Int.toNat_natCast] at c0
      have hblt := hI.lt
      go_wp2_with (at_lookup; refine Atm.wpList_look _ rfl _ _ rfl m n _ rfl hI.map x rfl hkk ?_)
      intro k'
      rw [Hmx.out]
      unfold ansVal
      have hlen : (getM M (l.take k)).length ≤ 1048576 := by simp only [getM, List.length_map]; have := List.length_take_le k l; omega
      go_wp2_with (at_builtin; refine Kd.R_append k98 (w0 := w) w.heap.size rfl (.tmp 25) (.tmp 27) 41 98 (.agg #[(.string ⟨#[]⟩), (.bool false), (.string ⟨#[]⟩), (.int .u32 0)]) 48 rfl Tryd.underlying41 info98 rfl (by decide) (by omega) u5 (getM M (l.take k)) ⟨x, mi, mv, mf⟩ [.string x, .bool mi, .string mv, .int .u32 mf] (fun _ => True) (fun _ => False) rfl (by first | (go_simp; done) | (go_simp; rfl)) (k98_mkM _ _ _ ⟨x, mi, mv, mf⟩) (fun _ hk => hk.elim) (fun _ _ => trivial) (Kd.R_alloc hR _) (below_alloc hb _) (below_alloc hb _).size ?aL ?_)
      case aL => omega
      intro v1 w1 hR1 hb1 _ _
      have hR2 : Kd.R k98 98 w1 w.heap.size (fun _ => True) v1 (getM M (l.take (k + 1))) := by rw [Hsn.out]; exact hR1
      clear hR hR1
      go_wp2
      go_roundw
      case rel => exact ⟨k + 1, hlt, by simp, hR2, hb1⟩
      case measure => simp [intOf]; omega
    · have hke : k = l.length := by omega
      subst hke
      rw [List.take_length] at hR
      go_wp2
      go_ret
      exact ⟨_, rfl, hR, hb⟩
end Go.Proofs.YtfaelejeihmgcaaDoor.Lgx
end

section
namespace Go.Proofs.YtfaelejeihmgcaaDoor.Lgx
open Go.RowKit Go.Proofs.YtfaelejeihmgcaaDoorW.PrintWords Go.Proofs.YtfaelejeihmgcaaDoorW.PrintLast
open Atm (MapIs Had nought putM ansVal)
def asked (l : List S98) : List ByteArray := l.map (·.f0)
def stepM (e : S43) (M : ByteArray → Had) : ByteArray → Had :=
  if e.f0 = 1 then commitM e.f1 e.f2 M else if e.f0 = 3 then forgetM e.f4 M else M
def fails (e : S43) (M : ByteArray → Had) : Bool := decide (e.f0 = 2) && !sameA (getM M (asked e.f3)) e.f3
def replayM : Nat → (ByteArray → Had) → List S43 → Int × Bool
  | i, _, [] => ((i : Int), true)
  | i, M, e :: l => if fails e M = true then ((i : Int), false) else replayM (i + 1) (stepM e M) l
def small (s : ByteArray) : Bool := decide (s.size ≤ 140737488355328)
def okE (e : S43) : Bool := decide (e.f2.length ≤ 1048576) && decide (e.f3.length ≤ 1048576) && decide (e.f4.length ≤ 1048576) && e.f2.all (fun x => small x.f0) && e.f3.all (fun x => small x.f0) && e.f4.all small
def okL (l : List S43) : Bool := decide (l.length ≤ 1048576) && l.all okE
def ledger_Replay.f (l0 : List S43) : Option (Int × Bool) := if okL l0 = true then some (replayM 0 (fun _ => nought) l0) else none
theorem rd43 {l : List S43} {k : Nat} (h : k < l.length) : rd_T43 l (k : Int) = l[k] := by
  unfold rd_T43
  rw [List.getD_eq_getElem?_getD, Int.toNat_natCast, List.getElem?_eq_getElem h]
  rfl
theorem small_max {s : ByteArray} (h : small s = true) : s.size ≤ maxLen := by
  unfold small at h
  unfold maxLen
  have := of_decide_eq_true h
  omega
structure OkE (e : S43) : Prop where
  w : e.f2.length ≤ 1048576
  a : e.f3.length ≤ 1048576
  k : e.f4.length ≤ 1048576
  kw : ∀ x ∈ e.f2, x.f0.size ≤ maxLen
  ka : ∀ x ∈ asked e.f3, x.size ≤ maxLen
  kk : ∀ x ∈ e.f4, x.size ≤ maxLen
theorem bound_n {n k m v : Nat} (hn : n ≤ k * 1048576) (hk : k ≤ m) (hm : m ≤ 1048576) (hw : v ≤ 1048576) : n + v < maxLen := by
  unfold maxLen
  omega
theorem bound_k {v : Nat} (hw : v ≤ 1048576) : v ≤ 9223372036854775807 := by omega
theorem okE_is {e : S43} (h : okE e = true) : OkE e := by
  unfold okE at h
  simp only [Bool.and_eq_true, decide_eq_true_eq, List.all_eq_true] at h
  obtain ⟨⟨⟨⟨⟨h1, h2⟩, h3⟩, h4⟩, h5⟩, h6⟩ := h
  refine ⟨h1, h2, h3, fun x hx => small_max (h4 x hx), fun x hx => ?_, fun x hx => small_max (h6 x hx)⟩
  obtain ⟨y, hy, rfl⟩ := List.mem_map.1 hx
  exact small_max (h5 y hy)
set_option maxHeartbeats 8000000 in
set_option maxRecDepth 100000 in
theorem ledger_Replay.calls (A0 : Option Addr) (c0 : Nat) (l0 : List (S43)) (r1 : Int) (r2 : Bool) (w : World) (hr0 : Kd.C k43 w A0 l0.length l0) (hc0 : l0.length ≤ c0) (h : ledger_Replay.f l0 = some (r1, r2)) :
    Calls Tryd.prog 35 #[.slice A0 l0.length c0] w fun e w' => e = .returned (.tuple #[.int .i64 r1, .bool r2]) ∧ Below w.heap.size w w' := by
  have hok : okL l0 = true := by
    unfold ledger_Replay.f at h
    split at h
    · assumption
    · cases h
  have hq : Aside0 (replayM 0 (fun _ => nought) l0 = (r1, r2)) := ⟨by unfold ledger_Replay.f at h; rw [if_pos hok] at h; exact Option.some.inj h⟩
  have hok2 : l0.length ≤ 1048576 ∧ ∀ e ∈ l0, OkE e := by
    unfold okL at hok
    simp only [Bool.and_eq_true, decide_eq_true_eq, List.all_eq_true] at hok
    exact ⟨hok.1, fun e he => okE_is (hok.2 e he)⟩
  obtain ⟨hlen, hev⟩ := hok2
  have HC0 := Lib.hid hc0
  clear h hok hc0
  go_enter Tryd.func35, Tryd.ntmps35
  go_wp2_with fail
  refine (atom_New _).mono ?_
  rintro e w1 ⟨rfl, hA1, hb1⟩
  go_wp2_with fail
  go_loopw [13] (fun i wr => ∃ (k n : Nat) (M : ByteArray → Had), k ≤ l0.length ∧ i = .int .i64 k ∧ n ≤ k * 1048576 ∧ AtomIs wr (w.heap.size + 1) w.heap.size n M ∧ Below w.heap.size w wr ∧ Aside0 (replayM k M (l0.drop k) = (r1, r2))) (fun i _ => l0.length - (intOf i).toNat)
  case atStart => exact ⟨0, 0, _, Nat.zero_le _, rfl, Nat.zero_le _, hA1, hb1, by rw [List.drop_zero]; exact hq⟩
  case round =>
    clear hA1 hb1 hq
    obtain ⟨k, n, M, hkl, rfl, hn, hI, hb, hq⟩ := hrel
    by_cases hlt : k < l0.length
    · obtain ⟨ad, A2, c2, A3, c3, A4, c4, e, x0, x1, x2, x3, x4, l2, g2, l3, g3, l4, g4⟩ := at_T43 hr0 k (by omega) (by omega)
      cases e
      rw [rd43 hlt] at x0 x1 x2 x3 x4 l2 g2 l3 g3 l4 g4
      replace x0 := (hb.cell (World.block_lt_of_cell? w _ x0)).trans x0
      replace x1 := (hb.cell (World.block_lt_of_cell? w _ x1)).trans x1
      replace x2 := (hb.cell (World.block_lt_of_cell? w _ x2)).trans x2
      replace x3 := (hb.cell (World.block_lt_of_cell? w _ x3)).trans x3
      replace x4 := (hb.cell (World.block_lt_of_cell? w _ x4)).trans x4
      have hE := hev _ (List.getElem_mem hlt)
      have hqs := hq.out
      rw [List.drop_eq_getElem_cons hlt, replayM] at hqs
      obtain ⟨x, hx⟩ : ∃ x, x = l0[k] := ⟨_, rfl⟩
      rw [← hx] at x0 x1 x2 x3 x4 l2 g2 l3 g3 l4 g4 hE hqs
      simp only [Int.toNat_natCast] at x0 x1 x2 x3 x4
      have Hqs := Lib.hid hqs
      clear hx hq hqs
      have HL2 := Lib.hid l2
      have HL3 := Lib.hid l3
      have HL4 := Lib.hid l4
      clear l2 l3 l4
      obtain ⟨xk, xs, xw, xa, xy⟩ := x
      have hblt := hI.lt
      have HE := Lib.hid hE
      clear hE
      have moves : ∀ (o : Obj) (W : World), (wr.alloc o).grownBy W (some w.heap.size) → Below w.heap.size w W := fun o W hg => pw_below_grown (below_alloc hb o) _ (below_alloc hb o).size hg (fun j hj => by cases hj; exact Nat.le_refl _)
      by_cases h1 : xk = 1
      · subst h1
        go_wp2_with fail
        refine (atom_Commit (w.heap.size + 1) w.heap.size n M xs _ c2 xw _ (hI.below (below_alloc (Below.refl _ _) _)) (fun W hg => Kd.C_below g2 (moves _ W hg)) HE.out.kw (bound_n hn hkl hlen HE.out.w)).mono ?_
        rintro e w2 ⟨rfl, hA2, hg2⟩
        have hb2 := moves _ _ hg2
        clear hg2 moves
        go_wp2
        go_roundw
        case rel =>
          refine ⟨k + 1, n + xw.length, _, hlt, by simp, ?_, hA2, hb2, ⟨?_⟩⟩
          · have := HE.out.w
            simp only at this
            omega
          · have h := Hqs.out
            rw [if_neg (by simp [fails])] at h
            exact h
        case measure => simp [intOf]; omega
      · by_cases h3 : xk = 3
        · subst h3
          go_wp2_with fail
          refine (atom_Forget (w.heap.size + 1) w.heap.size n M _ c4 xy _ (hI.below (below_alloc (Below.refl _ _) _)) (fun W hg => Kd.C_below g4 (moves _ W hg)) HE.out.kk (bound_k HE.out.k)).mono ?_
          rintro e w2 ⟨rfl, hA2, hg2⟩
          have hb2 := moves _ _ hg2
          clear hg2 moves
          go_wp2
          go_roundw
          case rel =>
            refine ⟨k + 1, n, _, hlt, by simp, Nat.le_trans hn (Nat.mul_le_mul_right _ (Nat.le_succ k)), hA2, hb2, ⟨?_⟩⟩
            have h := Hqs.out
            rw [if_neg (by simp [fails])] at h
            exact h
          case measure => simp [intOf]; omega
        · by_cases h2 : xk = 2
          · subst h2
            go_wp2_with fail
            obtain ⟨O, hO⟩ : ∃ O : Obj, O = Obj.cells #[.int .i64 2, .int .u32 xs, .slice A2 xw.length c2, .slice A3 xa.length c3, .slice A4 xy.length c4] 43 := ⟨_, rfl⟩
            have hI0 := hI.below (below_alloc (Below.refl _ _) O)
            have hb0 := below_alloc hb O
            have z3 : (wr.alloc O).cell? ⟨wr.heap.size, 3, none⟩ = some (.slice A3 xa.length c3) := by
              have h := Lib.cell_of_heap (heap_alloc_new wr (Obj.cells #[.int .i64 2, .int .u32 xs, .slice A2 xw.length c2, .slice A3 xa.length c3, .slice A4 xy.length c4] 43)) 3
              rw [hO, h]
              rfl
            have hz0 : wr.heap.size < (wr.alloc O).heap.size := by simp
            rw [← hO]
            clear hO moves x0 x1 x2 x3 x4 g2 g4
            generalize wr.alloc O = W0 at hI0 hb0 z3 hz0 ⊢
            have hal := HE.out.a
            simp only at hal
            obtain ⟨wo, rfl⟩ : ∃ wo : World, wo = wr := ⟨_, rfl⟩
            go_loopw [7, 39] (fun v i wi => ∃ j : Nat, j ≤ xa.length ∧ i = .int .i64 j ∧ Kd.R Kd.string 9 wi W0.heap.size (fun _ => True) v (asked (xa.take j)) ∧ Below W0.heap.size W0 wi) (fun _ i _ => xa.length - (intOf i).toNat)
            case atStart => exact ⟨0, Nat.zero_le _, rfl, Kd.R_nil _ _ _ _ _, Below.refl _ _⟩
            case round =>
              obtain ⟨j, hjl, rfl, hR, hbi⟩ := hrel
              have hbm : Below w.heap.size w wr := below_then hb0 hb0.size hbi
              by_cases hlj : j < xa.length
              · obtain ⟨ad3, e3, y0, y1, y2, y3⟩ := at_T98 g3 j (by omega) (by omega)
                cases e3
                rw [rd98 hlj] at y0 y1 y2 y3
                replace y0 := (hbm.cell (World.block_lt_of_cell? w _ y0)).trans y0
                replace y1 := (hbm.cell (World.block_lt_of_cell? w _ y1)).trans y1
                replace y2 := (hbm.cell (World.block_lt_of_cell? w _ y2)).trans y2
                replace y3 := (hbm.cell (World.block_lt_of_cell? w _ y3)).trans y3
                have hsn : asked (xa.take (j + 1)) = asked (xa.take j) ++ [xa[j].f0] := by
                  rw [List.take_succ_eq_append_getElem hlj]
                  simp only [asked, List.map_append, List.map_cons, List.map_nil]
                obtain ⟨y, hy⟩ : ∃ y, y = xa[j] := ⟨_, rfl⟩
                rw [← hy] at y0 y1 y2 y3 hsn
                simp only [Int.toNat_natCast] at y0 y1 y2 y3
                have Hsn := Lib.hid hsn
                clear hsn hy
                obtain ⟨yk, yi, yv, yf⟩ := y
                have hlen2 : (asked (xa.take j)).length ≤ 1048576 := by simp only [asked, List.length_map]; have := List.length_take_le j xa; omega
                go_wp2_with (at_builtin; refine Kd.R_append Kd.string (w0 := W0) W0.heap.size rfl (.tmp 43) (.tmp 46) 22 9 (.string ⟨#[]⟩) 16 rfl Tryd.underlying22 info9 rfl (by decide) (by omega) u7 (asked (xa.take j)) yk [.string yk] (fun _ => True) (fun _ => False) rfl (by first | (go_simp; done) | (go_simp; rfl)) rfl (fun _ hk => hk.elim) (fun _ _ => trivial) (Kd.R_alloc hR _) (below_alloc hbi _) (below_alloc hbi _).size ?aL ?_)
                case aL => omega
                intro v1 w4 hR1 hb1 _ _
                have hR2 : Kd.R Kd.string 9 w4 W0.heap.size (fun _ => True) v1 (asked (xa.take (j + 1))) := by rw [Hsn.out]; exact hR1
                clear hR hR1
                go_wp2
                go_roundw
                case rel => exact ⟨j + 1, hlj, by simp, hR2, hb1⟩
                case measure => simp [intOf]; omega
              · have hje : j = xa.length := by omega
                subst hje
                rw [List.take_length] at hR
                have hIa := hI0.below hbi
                have z4 := (hbi.cell (p := ⟨wo.heap.size, 3, none⟩) hz0).trans z3
                obtain ⟨Aa, ca, ea⟩ := Kd.R_slice hR
                subst ea
                obtain ⟨_, hca, hCa⟩ := Kd.R_reads' hR
                have hask : (asked xa).length = xa.length := by simp [asked]
                have hgl : (getM M (asked xa)).length = xa.length := by simp [asked, getM]
                have step : ∀ w3, Below wr.heap.size wr w3 → Calls Tryd.prog 76 #[.pointer (some ⟨w.heap.size + 1, 0, none⟩), .slice Aa (asked xa).length ca] w3 fun e w' => ∃ A c, e = .returned (.slice A (getM M (asked xa)).length c) ∧ ((getM M (asked xa)).length ≤ c ∧ Kd.C k98 w' A (getM M (asked xa)).length (getM M (asked xa))) ∧ Below wr.heap.size wr w' := by
                  intro w3 h3
                  refine (atom_Get _ _ n M Aa ca (asked xa) w3 (hIa.below h3) (Kd.C_below hCa h3) HE.out.ka (by omega)).mono ?_
                  rintro e w4 ⟨v, rfl, hRv, hb4⟩
                  obtain ⟨A, c, rfl⟩ := Kd.R_slice hRv
                  exact ⟨A, c, rfl, (Kd.R_reads' hRv).2, below_then h3 h3.size hb4⟩
                have step2 : ∀ w3 A c, Below wr.heap.size wr w3 → (getM M (asked xa)).length ≤ c → Kd.C k98 w3 A (getM M (asked xa)).length (getM M (asked xa)) → Calls Tryd.prog 75 #[.slice A (getM M (asked xa)).length c, .slice A3 xa.length c3] w3 fun e w' => e = .returned (.bool (sameA (getM M (asked xa)) xa)) ∧ Below wr.heap.size wr w' := by
                  intro w3 A c h3 hc hC
                  exact (api_Answer.calls (xa.length + 1) A c _ A3 c3 xa _ w3 hC hc (Kd.C_below g3 (below_then hbm hbm.size h3)) HL3.out (api_f _ _ (by omega) _ (by omega))).mono (fun e w' h => ⟨h.1, below_then h3 h3.size h.2.below⟩)
                have Hgl := Lib.hid hgl
                have Hask := Lib.hid hask
                clear hgl hask
                obtain ⟨sb, hsb⟩ : ∃ sb, sb = sameA (getM M (asked xa)) xa := ⟨_, rfl⟩
                rw [← hsb] at step2
                have Hsb := Lib.hid hsb
                clear hsb
                have zz : ∀ W, Below wr.heap.size wr W → W.cell? ⟨wo.heap.size, 3, none⟩ = some (.slice A3 xa.length c3) := fun W hW => (hW.cell (p := ⟨wo.heap.size, 3, none⟩) (Nat.lt_of_lt_of_le hz0 hbi.size)).trans z4
                go_wp2_with fail
                go_region_held3 (fun w' => w'.cell? ⟨wo.heap.size, 3, none⟩ = some (.slice A3 xa.length c3)) (exact zz _ (by first | assumption | exact Below.refl _ _ | exact (Below.refl _ _).drew | exact Below.drew (by assumption)))
                  (first | (go_at_call 76; refine (step _ (by first | assumption | exact Below.refl _ _ | exact (Below.refl _ _).drew | exact Below.drew (by assumption))).mono ?_; rintro e w4 ⟨A, c, rfl, ⟨hcc, hCC⟩, hb4⟩) | (go_at_call 75; refine (step2 _ _ _ (by assumption) (by assumption) (by assumption)).mono ?_; rintro e w5 ⟨rfl, hd⟩))
                have hbf : Below w.heap.size w w5 := below_then hbm hbm.size hd
                have hIf := hIa.below hd
                clear step step2 zz
                cases sb
                · have h := Hqs.out
                  rw [if_pos (by simp [fails, ← Hsb.out])] at h
                  simp only [Prod.mk.injEq] at h
                  obtain ⟨rfl, rfl⟩ := h
                  go_wp2
                  go_ret2
                  exact ⟨rfl, hbf⟩
                · go_wp2
                  go_roundw
                  case rel =>
                    refine ⟨k + 1, n, _, hlt, by simp, Nat.le_trans hn (Nat.mul_le_mul_right _ (Nat.le_succ k)), hIf, hbf, ⟨?_⟩⟩
                    have h := Hqs.out
                    rw [if_neg (by simp [fails, ← Hsb.out])] at h
                    exact h
                  case measure => simp [intOf]; omega
          · have t1 : (xk == 1) = false := beq_eq_false_iff_ne.2 h1
            have t3 : (xk == 3) = false := beq_eq_false_iff_ne.2 h3
            have t2 : (xk == 2) = false := beq_eq_false_iff_ne.2 h2
            have Hst : Hid (stepM ⟨xk, xs, xw, xa, xy⟩ M = M ∧ fails ⟨xk, xs, xw, xa, xy⟩ M = false) := Lib.hid ⟨by simp [stepM, h1, h3], by simp [fails, h2]⟩
            clear h1 h3 h2 moves
            go_wp2
            go_roundw
            case rel =>
              refine ⟨k + 1, n, M, hlt, by simp, Nat.le_trans hn (Nat.mul_le_mul_right _ (Nat.le_succ k)), hI.below (below_alloc (Below.refl _ _) _), below_alloc hb _, ⟨?_⟩⟩
              have h := Hqs.out
              rw [if_neg (by rw [Hst.out.2]; decide), Hst.out.1] at h
              exact h
            case measure => simp [intOf]; omega
    · have hke : k = l0.length := by omega
      subst hke
      have hqs := hq.out
      rw [List.drop_length, replayM] at hqs
      simp only [Prod.mk.injEq] at hqs
      obtain ⟨rfl, rfl⟩ := hqs
      clear hq
      go_wp2
      go_ret2
      exact ⟨rfl, hb⟩
end Go.Proofs.YtfaelejeihmgcaaDoor.Lgx
end

section
namespace Go.Proofs.YtfaelejeihmgcaaDoor.Lgx
open Go.RowKit Go.Proofs.YtfaelejeihmgcaaDoorW.PrintWords Go.Proofs.YtfaelejeihmgcaaDoorW.PrintLast
theorem ref_l0 (x y : List S98) (hlen : x.length = y.length) (hb : x.length ≤ 9223372036854775806) : ∀ (d k j : Nat), x.length - j = d → j ≤ x.length → d < k → cachepotref3_SameAnswers.l0 k x y (j : Int) = some (sameA (x.drop j) (y.drop j)) := by
  intro d
  induction d with
  | zero =>
    intro k j hd hj hk
    obtain ⟨k, rfl⟩ : ∃ m, k = m + 1 := ⟨k - 1, by omega⟩
    rw [List.drop_eq_nil_of_le (by omega), List.drop_eq_nil_of_le (by omega)]
    simp only [cachepotref3_SameAnswers.l0]
    rw [if_neg (by omega)]
    rfl
  | succ d ih =>
    intro k j hd hj hk
    obtain ⟨k, rfl⟩ : ∃ m, k = m + 1 := ⟨k - 1, by omega⟩
    have h1 : j < x.length := by omega
    have h2 : j < y.length := by omega
    have hi := ih k (j + 1) (by omega) (by omega) (by omega)
    rw [List.drop_eq_getElem_cons h1, List.drop_eq_getElem_cons h2]
    simp only [cachepotref3_SameAnswers.l0]
    rw [if_pos (by omega), if_pos (by omega), if_pos (by omega), rd98 h1, rd98 h2, w64 _ (by omega) (by omega)]
    show (if neA x[j] y[j] = true then some false else _) = _
    simp only [sameA]
    cases neA x[j] y[j]
    · rw [if_neg (by decide)]
      exact hi
    · rw [if_pos rfl]
      rfl
theorem ref_f (x y : List S98) (hb : x.length ≤ 9223372036854775806) (k : Nat) (hk : x.length < k) : cachepotref3_SameAnswers.f k x y = some (sameA x y) := by
  unfold cachepotref3_SameAnswers.f
  by_cases h : x.length = y.length
  · rw [if_pos (by omega)]
    exact ref_l0 x y h hb x.length k 0 (by omega) (by omega) hk
  · rw [if_neg (by omega), sameA_ne x y h]
end Go.Proofs.YtfaelejeihmgcaaDoor.Lgx
end

section
namespace Go.Proofs.YtfaelejeihmgcaaDoor.Lgx
open Go.RowKit Go.Proofs.YtfaelejeihmgcaaDoorW.PrintWords Go.Proofs.YtfaelejeihmgcaaDoorW.PrintLast
def stepR (e : S43) (L : List S98) : List S98 := if e.f0 = 1 then commitF e.f1 e.f2 L else if e.f0 = 3 then forgetF e.f4 L else L
def failsR (e : S43) (L : List S98) : Bool := decide (e.f0 = 2) && !sameA (refGetF L (asked e.f3)) e.f3
def replayR : Nat → List S98 → List S43 → Int × Bool
  | i, _, [] => ((i : Int), true)
  | i, L, e :: l => if failsR e L = true then ((i : Int), false) else replayR (i + 1) (stepR e L) l
def writesN (l : List S43) : Nat := (l.map fun e => e.f2.length).sum
def okR (l : List S43) : Bool := okL l && (decide (writesN l ≤ 1048576) && l.all fun e => e.f2.all fun x => decide (x.f0.size ≤ 1099511627776))
def cachepotref3_Replay.f (l0 : List S43) : Option (Int × Bool) := if okR l0 = true then some (replayR 0 [] l0) else none
theorem short_forgetF (l : List ByteArray) : ∀ {L : List S98}, Short98 L → Short98 (forgetF l L) := by
  induction l with
  | nil => intro L h; exact h
  | cons k l ih => intro L h; exact ih (short_without h)
set_option maxHeartbeats 8000000 in
set_option maxRecDepth 100000 in
theorem cachepotref3_Replay.calls (A0 : Option Addr) (c0 : Nat) (l0 : List (S43)) (r1 : Int) (r2 : Bool) (w : World) (hr0 : Kd.C k43 w A0 l0.length l0) (hc0 : l0.length ≤ c0) (h : cachepotref3_Replay.f l0 = some (r1, r2)) :
    Calls Tryd.prog 36 #[.slice A0 l0.length c0] w fun e w' => e = .returned (.tuple #[.int .i64 r1, .bool r2]) ∧ Below w.heap.size w w' := by
  have hok : okR l0 = true := by
    unfold cachepotref3_Replay.f at h
    split at h
    · assumption
    · cases h
  have hq : Aside0 (replayR 0 [] l0 = (r1, r2)) := ⟨by unfold cachepotref3_Replay.f at h; rw [if_pos hok] at h; exact Option.some.inj h⟩
  have hok2 : l0.length ≤ 1048576 ∧ (∀ e ∈ l0, OkE e) ∧ writesN l0 ≤ 1048576 ∧ (∀ e ∈ l0, ∀ x ∈ e.f2, x.f0.size ≤ 1099511627776) := by
    unfold okR okL at hok
    simp only [Bool.and_eq_true, decide_eq_true_eq, List.all_eq_true] at hok
    exact ⟨hok.1.1, fun e he => okE_is (hok.1.2 e he), hok.2.1, hok.2.2⟩
  obtain ⟨hlen, hev, hwn, hsh⟩ := hok2
  have HC0 := Lib.hid hc0
  clear h hok hc0
  go_enter Tryd.func36, Tryd.ntmps36
  go_wp2
  have hb1 := below_alloc (Below.refl _ w) (.cells #[.slice none 0 0] 104)
  have hA1 : RefIs (w.alloc (.cells #[.slice none 0 0] 104)) w.heap.size w.heap.size (.slice none 0 0) [] := ⟨heap_alloc_new w _, Kd.R_nil _ _ _ _ _, Nat.le_refl _⟩
  generalize w.alloc (.cells #[.slice none 0 0] 104) = w1 at hb1 hA1 ⊢
  go_loopw [5] (fun i wr => ∃ (k : Nat) (v : Value) (L : List S98), k ≤ l0.length ∧ i = .int .i64 k ∧ L.length + writesN (l0.drop k) ≤ 1048576 ∧ Short98 L ∧ RefIs wr w.heap.size w.heap.size v L ∧ Below w.heap.size w wr ∧ Aside0 (replayR k L (l0.drop k) = (r1, r2))) (fun i _ => l0.length - (intOf i).toNat)
  case atStart => exact ⟨0, _, [], Nat.zero_le _, rfl, by rw [List.drop_zero]; simpa using hwn, fun _ h => absurd h (List.not_mem_nil), hA1, hb1, by rw [List.drop_zero]; exact hq⟩
  case round =>
    clear hA1 hb1 hq
    obtain ⟨k, v, L, hkl, rfl, hn, hs, hI, hb, hq⟩ := hrel
    by_cases hlt : k < l0.length
    · obtain ⟨ad, A2, c2, A3, c3, A4, c4, e, x0, x1, x2, x3, x4, l2, g2, l3, g3, l4, g4⟩ := at_T43 hr0 k (by omega) (by omega)
      cases e
      rw [rd43 hlt] at x0 x1 x2 x3 x4 l2 g2 l3 g3 l4 g4
      replace x0 := (hb.cell (World.block_lt_of_cell? w _ x0)).trans x0
      have x1w := x1
      have x2w := x2
      have x3w := x3
      replace x1 := (hb.cell (World.block_lt_of_cell? w _ x1)).trans x1
      replace x2 := (hb.cell (World.block_lt_of_cell? w _ x2)).trans x2
      replace x3 := (hb.cell (World.block_lt_of_cell? w _ x3)).trans x3
      replace x4 := (hb.cell (World.block_lt_of_cell? w _ x4)).trans x4
      have hE := hev _ (List.getElem_mem hlt)
      have hSh := hsh _ (List.getElem_mem hlt)
      have hqs := hq.out
      rw [List.drop_eq_getElem_cons hlt] at hqs hn
      rw [replayR] at hqs
      have hn2 : L.length + l0[k].f2.length + writesN (l0.drop (k + 1)) ≤ 1048576 := by
        simp only [writesN, List.map_cons, List.sum_cons] at hn ⊢
        omega
      obtain ⟨x, hx⟩ : ∃ x, x = l0[k] := ⟨_, rfl⟩
      rw [← hx] at x0 x1 x2 x3 x4 l2 g2 l3 g3 l4 g4 hE hqs hSh hn2 x1w x2w x3w
      simp only [Int.toNat_natCast] at x0 x1 x2 x3 x4 x1w x2w x3w
      have Hqs := Lib.hid hqs
      have Hn2 := Lib.hid hn2
      clear hx hq hqs hn hn2
      have HL2 := Lib.hid l2
      have HL3 := Lib.hid l3
      have HL4 := Lib.hid l4
      clear l2 l3 l4
      obtain ⟨xk, xs, xw, xa, xy⟩ := x
      have hblt := hI.lt
      have HE := Lib.hid hE
      have HSh := Lib.hid hSh
      clear hE hSh
      have moves : ∀ (W0 W : World), Below wr.heap.size wr W0 → W0.grownBy W (some w.heap.size) → Below w.heap.size w W := fun W0 W h0 hg => pw_below_grown (below_then hb hb.size h0) _ (below_then hb hb.size h0).size hg (fun j hj => by cases hj; exact Nat.le_refl _)
      by_cases h1 : xk = 1
      · subst h1
        have hcall : ∀ W0, Below wr.heap.size wr W0 → Calls Tryd.prog 70 #[.pointer (some ⟨w.heap.size, 0, none⟩), .int .u32 xs, .slice A2 xw.length c2] W0 fun e w' => e = .returned (.tuple #[]) ∧ ∃ v', RefIs w' w.heap.size w.heap.size v' (commitF xs xw L) ∧ Below w.heap.size w w' := fun W0 h0 =>
          (ref_Commit w.heap.size w.heap.size v L xs A2 c2 xw W0 (hI.below h0) (fun W hg => Kd.C_below g2 (moves W0 W h0 hg)) (by have := Hn2.out; simp only at this; omega) hs HSh.out).mono fun e w' ⟨he, v', hR, hg⟩ => ⟨he, v', hR, moves W0 w' h0 hg⟩
        have zz : ∀ W, Below wr.heap.size wr W → W.cell? ⟨(ad.add (k * 5)).block, (ad.add (k * 5)).off + 1, none⟩ = some (.int .u32 xs) ∧ W.cell? ⟨(ad.add (k * 5)).block, (ad.add (k * 5)).off + 2, none⟩ = some (.slice A2 xw.length c2) := fun W hW => ⟨(hW.cell (World.block_lt_of_cell? wr _ x1)).trans x1, (hW.cell (World.block_lt_of_cell? wr _ x2)).trans x2⟩
        have zz2 : ∀ W, Below w.heap.size w W → W.cell? ⟨(ad.add (k * 5)).block, (ad.add (k * 5)).off + 1, none⟩ = some (.int .u32 xs) ∧ W.cell? ⟨(ad.add (k * 5)).block, (ad.add (k * 5)).off + 2, none⟩ = some (.slice A2 xw.length c2) := fun W hW => ⟨(hW.cell (World.block_lt_of_cell? w _ x1w)).trans x1w, (hW.cell (World.block_lt_of_cell? w _ x2w)).trans x2w⟩
        go_wp2_with fail
        go_region_held3 (fun W => W.cell? ⟨(ad.add (k * 5)).block, (ad.add (k * 5)).off + 1, none⟩ = some (.int .u32 xs) ∧ W.cell? ⟨(ad.add (k * 5)).block, (ad.add (k * 5)).off + 2, none⟩ = some (.slice A2 xw.length c2)) (first | exact zz _ (by first | assumption | exact Below.refl _ _ | exact below_drew (Below.refl _ _)) | exact zz2 _ (by assumption))
          ((go_at_call 70; refine (hcall _ (by first | assumption | exact Below.refl _ _ | exact below_drew (Below.refl _ _))).mono ?_; rintro e w2 ⟨rfl, v2, hA2, hb2⟩))
        all_goals (
          clear hcall zz zz2 moves
          go_wp2
          go_roundw
          case rel =>
            refine ⟨k + 1, v2, _, hlt, by simp, ?_, short_commitF _ HSh.out hs, hA2, hb2, ⟨?_⟩⟩
            · have := Hn2.out
              have h2 := commitF_len xs xw L
              omega
            · have h := Hqs.out
              rw [if_neg (by simp [failsR])] at h
              exact h
          case measure => simp [intOf]; omega)
      · by_cases h3 : xk = 3
        · subst h3
          go_wp2_with fail
          refine (ref_Forget w.heap.size w.heap.size v L A4 c4 xy _ hI (fun W hg => Kd.C_below g4 (moves wr W (Below.refl _ _) hg)) (by have := Hn2.out; omega) HE.out.k).mono ?_
          rintro e w2 ⟨rfl, v2, hA2, hg2⟩
          have hb2 := moves _ _ (Below.refl _ _) hg2
          clear hg2 moves
          go_wp2
          go_roundw
          case rel =>
            refine ⟨k + 1, v2, _, hlt, by simp, ?_, short_forgetF _ hs, hA2, hb2, ⟨?_⟩⟩
            · have := Hn2.out
              have h2 := forgetF_len xy L
              omega
            · have h := Hqs.out
              rw [if_neg (by simp [failsR])] at h
              exact h
          case measure => simp [intOf]; omega
        · by_cases h2 : xk = 2
          · subst h2
            go_wp2_with fail
            obtain ⟨Av, cv, ev⟩ := Kd.R_slice hI.row
            subst ev
            have hLn : L.length ≤ 1048576 := by have := Hn2.out; omega
            have hal := HE.out.a
            simp only at hal
            clear moves x0 x1 x2 x4 g2 g4 x1w x2w x3w
            obtain ⟨wo, rfl⟩ : ∃ wo : World, wo = wr := ⟨_, rfl⟩
            go_loopw [6, 7] (fun v i wi => ∃ j : Nat, j ≤ xa.length ∧ i = .int .i64 j ∧ Kd.R Kd.string 9 wi wo.heap.size (fun _ => True) v (asked (xa.take j)) ∧ Below wo.heap.size wo wi) (fun _ i _ => xa.length - (intOf i).toNat)
            case atStart => exact ⟨0, Nat.zero_le _, rfl, Kd.R_nil _ _ _ _ _, Below.refl _ _⟩
            case round =>
              obtain ⟨j, hjl, rfl, hR, hbi⟩ := hrel
              have hbm : Below w.heap.size w wr := below_then hb hb.size hbi
              have x3i := (hbi.cell (World.block_lt_of_cell? wo _ x3)).trans x3
              by_cases hlj : j < xa.length
              · obtain ⟨ad3, e3, y0, y1, y2, y3⟩ := at_T98 g3 j (by omega) (by omega)
                cases e3
                rw [rd98 hlj] at y0 y1 y2 y3
                replace y0 := (hbm.cell (World.block_lt_of_cell? w _ y0)).trans y0
                clear y1 y2 y3
                have hsn : asked (xa.take (j + 1)) = asked (xa.take j) ++ [xa[j].f0] := by
                  rw [List.take_succ_eq_append_getElem hlj]
                  simp only [asked, List.map_append, List.map_cons, List.map_nil]
                obtain ⟨y, hy⟩ : ∃ y, y = xa[j] := ⟨_, rfl⟩
                rw [← hy] at y0 hsn
                simp only [Int.toNat_natCast] at y0
                have Hsn := Lib.hid hsn
                clear hsn hy
                obtain ⟨yk, yi, yv, yf⟩ := y
                have hlen2 : (asked (xa.take j)).length ≤ 1048576 := by simp only [asked, List.length_map]; have := List.length_take_le j xa; omega
                go_wp2_with (at_builtin; refine Kd.R_append Kd.string (w0 := wo) wo.heap.size rfl (.tmp 56) (.tmp 66) 22 9 (.string ⟨#[]⟩) 16 rfl Tryd.underlying22 info9 rfl (by decide) (by omega) u6 (asked (xa.take j)) yk [.string yk] (fun _ => True) (fun _ => False) rfl (by first | (go_simp; done) | (go_simp; rfl)) rfl (fun _ hk => hk.elim) (fun _ _ => trivial) hR hbi hbi.size ?aL ?_)
                case aL => omega
                intro v1 w4 hR1 hb1 _ _
                have hR2 : Kd.R Kd.string 9 w4 wo.heap.size (fun _ => True) v1 (asked (xa.take (j + 1))) := by rw [Hsn.out]; exact hR1
                clear hR hR1
                go_wp2
                go_roundw
                case rel => exact ⟨j + 1, hlj, by simp, hR2, hb1⟩
                case measure => simp [intOf]; omega
              · have hje : j = xa.length := by omega
                subst hje
                rw [List.take_length] at hR
                have hIa := hI.below hbi
                obtain ⟨Aa, ca, ea⟩ := Kd.R_slice hR
                subst ea
                obtain ⟨_, hca, hCa⟩ := Kd.R_reads' hR
                have hask : (asked xa).length = xa.length := by simp [asked]
                have hgl : (refGetF L (asked xa)).length = xa.length := by simp [asked, refGetF]
                have step : ∀ w3, Below wr.heap.size wr w3 → Calls Tryd.prog 68 #[.pointer (some ⟨w.heap.size, 0, none⟩), .slice Aa (asked xa).length ca] w3 fun e w' => ∃ A c, e = .returned (.slice A (refGetF L (asked xa)).length c) ∧ ((refGetF L (asked xa)).length ≤ c ∧ Kd.C k98 w' A (refGetF L (asked xa)).length (refGetF L (asked xa))) ∧ Below wr.heap.size wr w' := by
                  intro w3 h3
                  have hI3 := hIa.below h3
                  refine (ref_Get w.heap.size Av cv L Aa ca (asked xa) w3 hI3.cell0 (Kd.R_reads' hI3.row).2.2 (Kd.C_below hCa h3) hLn (by omega)).mono ?_
                  rintro e w4 ⟨v, rfl, hRv, hb4⟩
                  obtain ⟨A, c, rfl⟩ := Kd.R_slice hRv
                  exact ⟨A, c, rfl, (Kd.R_reads' hRv).2, below_then h3 h3.size hb4⟩
                have step2 : ∀ w3 A c, Below wr.heap.size wr w3 → (refGetF L (asked xa)).length ≤ c → Kd.C k98 w3 A (refGetF L (asked xa)).length (refGetF L (asked xa)) → Calls Tryd.prog 77 #[.slice A (refGetF L (asked xa)).length c, .slice A3 xa.length c3] w3 fun e w' => e = .returned (.bool (sameA (refGetF L (asked xa)) xa)) ∧ Below wr.heap.size wr w' := by
                  intro w3 A c h3 hc hC
                  exact (cachepotref3_SameAnswers.calls (xa.length + 1) A c _ A3 c3 xa _ w3 hC hc (Kd.C_below g3 (below_then hbm hbm.size h3)) HL3.out (ref_f _ _ (by omega) _ (by omega))).mono (fun e w' h => ⟨h.1, below_then h3 h3.size h.2.below⟩)
                have Hgl := Lib.hid hgl
                have Hask := Lib.hid hask
                clear hgl hask
                obtain ⟨sb, hsb⟩ : ∃ sb, sb = sameA (refGetF L (asked xa)) xa := ⟨_, rfl⟩
                rw [← hsb] at step2
                have Hsb := Lib.hid hsb
                clear hsb
                have zz : ∀ W, Below wr.heap.size wr W → W.cell? ⟨(ad.add (k * 5)).block, (ad.add (k * 5)).off + 3, none⟩ = some (.slice A3 xa.length c3) := fun W hW => (hW.cell (World.block_lt_of_cell? wr _ x3i)).trans x3i
                go_wp2_with fail
                go_region_held3 (fun w' => w'.cell? ⟨(ad.add (k * 5)).block, (ad.add (k * 5)).off + 3, none⟩ = some (.slice A3 xa.length c3)) (exact zz _ (by first | assumption | exact Below.refl _ _ | exact (Below.refl _ _).drew | exact Below.drew (by assumption)))
                  (first | (go_at_call 68; refine (step _ (by first | assumption | exact Below.refl _ _ | exact (Below.refl _ _).drew | exact Below.drew (by assumption))).mono ?_; rintro e w4 ⟨A, c, rfl, ⟨hcc, hCC⟩, hb4⟩) | (go_at_call 77; refine (step2 _ _ _ (by assumption) (by assumption) (by assumption)).mono ?_; rintro e w5 ⟨rfl, hd⟩))
                have hbf : Below w.heap.size w w5 := below_then hbm hbm.size hd
                have hIf := hIa.below hd
                clear step step2 zz
                cases sb
                · have h := Hqs.out
                  rw [if_pos (by simp [failsR, ← Hsb.out])] at h
                  simp only [Prod.mk.injEq] at h
                  obtain ⟨rfl, rfl⟩ := h
                  go_wp2
                  go_ret2
                  exact ⟨rfl, hbf⟩
                · go_wp2
                  go_roundw
                  case rel =>
                    refine ⟨k + 1, _, L, hlt, by simp, by have := Hn2.out; omega, hs, hIf, hbf, ⟨?_⟩⟩
                    have h := Hqs.out
                    rw [if_neg (by simp [failsR, ← Hsb.out])] at h
                    exact h
                  case measure => simp [intOf]; omega
          · have t1 : (xk == 1) = false := beq_eq_false_iff_ne.2 h1
            have t3 : (xk == 3) = false := beq_eq_false_iff_ne.2 h3
            have t2 : (xk == 2) = false := beq_eq_false_iff_ne.2 h2
            have Hst : Hid (stepR ⟨xk, xs, xw, xa, xy⟩ L = L ∧ failsR ⟨xk, xs, xw, xa, xy⟩ L = false) := Lib.hid ⟨by simp [stepR, h1, h3], by simp [failsR, h2]⟩
            clear h1 h3 h2 moves
            go_wp2
            go_roundw
            case rel =>
              refine ⟨k + 1, v, L, hlt, by simp, by have := Hn2.out; omega, hs, hI, hb, ⟨?_⟩⟩
              have h := Hqs.out
              rw [if_neg (by rw [Hst.out.2]; decide), Hst.out.1] at h
              exact h
            case measure => simp [intOf]; omega
    · have hke : k = l0.length := by omega
      subst hke
      have hqs := hq.out
      rw [List.drop_length, replayR] at hqs
      simp only [Prod.mk.injEq] at hqs
      obtain ⟨rfl, rfl⟩ := hqs
      clear hq
      go_wp2
      go_ret2
      exact ⟨rfl, hb⟩
end Go.Proofs.YtfaelejeihmgcaaDoor.Lgx
end

section
namespace Go.Proofs.YtfaelejeihmgcaaDoor.Lgx
open Go.RowKit Go.Proofs.YtfaelejeihmgcaaDoorW.PrintWords Go.Proofs.YtfaelejeihmgcaaDoorW.PrintLast
theorem put5 {W : World} {g : Nat} {a0 a1 a2 a3 a4 : Value} (h : W.heap[g]? = some (.cells #[a0, a1, a2, a3, a4] 43)) (b0 b1 b2 b3 b4 : Value) :
    (((((W.setCell ⟨g, 0, none⟩ b0).setCell ⟨g, 1, none⟩ b1).setCell ⟨g, 2, none⟩ b2).setCell ⟨g, 3, none⟩ b3).setCell ⟨g, 4, none⟩ b4).heap[g]? = some (.cells #[b0, b1, b2, b3, b4] 43) := by
  simp [World.setCell, Array.getElem?_modify, h]
theorem set_grown (W : World) (g j : Nat) (v : Value) : W.grownBy (W.setCell ⟨g, j, none⟩ v) (some g) :=
  ⟨rfl, rfl, rfl, by simp [World.setCell], fun i _ hne => Below.heap_setCell _ _ _ _ (fun e => hne (by rw [e]))⟩
theorem grown5 (W : World) (g : Nat) (b0 b1 b2 b3 b4 : Value) :
    W.grownBy (((((W.setCell ⟨g, 0, none⟩ b0).setCell ⟨g, 1, none⟩ b1).setCell ⟨g, 2, none⟩ b2).setCell ⟨g, 3, none⟩ b3).setCell ⟨g, 4, none⟩ b4) (some g) :=
  ((((set_grown W g 0 b0).trans (set_grown _ g 1 b1)).trans (set_grown _ g 2 b2)).trans (set_grown _ g 3 b3)).trans (set_grown _ g 4 b4)
structure St (w W : World) (b n : Nat) (vm : Value) (L : List S98) (vo : Value) (out : List S43) (xc : Array Value) (ec : Array Value) : Prop where
  I : RefIs W w.heap.size b vm L
  O : Kd.R k43 43 W w.heap.size (fun q => q ≠ b ∧ q < n) vo out
  X : W.heap[n]? = some (.cells xc 58)
  E : W.heap[n + 1]? = some (.cells ec 43)
  B : Below w.heap.size w W
  hn : b < n
section
variable {w W : World} {b n : Nat} {vm : Value} {L : List S98} {vo : Value} {out : List S43} {xc ec : Array Value} {a0 a1 a2 a3 a4 : Value}
theorem St.lt (s : St w W b n vm L vo out xc ec) : n + 1 < W.heap.size := (Array.getElem?_eq_some_iff.1 s.E).1
theorem St.below (s : St w W b n vm L vo out xc ec) {W' : World} (h : Below W.heap.size W W') : St w W' b n vm L vo out xc ec :=
  ⟨s.I.below h, Kd.R_below s.O h, (h.block n (Nat.lt_of_succ_lt s.lt)).trans s.X, (h.block (n + 1) s.lt).trans s.E, below_then s.B s.B.size h, s.hn⟩
/-- the event's box is written -/
theorem St.put (s : St w W b n vm L vo out xc #[a0, a1, a2, a3, a4]) (b0 b1 b2 b3 b4 : Value) :
    St w (((((W.setCell ⟨n + 1, 0, none⟩ b0).setCell ⟨n + 1, 1, none⟩ b1).setCell ⟨n + 1, 2, none⟩ b2).setCell ⟨n + 1, 3, none⟩ b3).setCell ⟨n + 1, 4, none⟩ b4) b n vm L vo out xc #[b0, b1, b2, b3, b4] := by
  have hg := grown5 W (n + 1) b0 b1 b2 b3 b4
  have hp := put5 s.E b0 b1 b2 b3 b4
  have hlt := s.lt
  have hn := s.hn
  have hB : w.heap.size ≤ n + 1 := Nat.le_trans s.I.hB (by omega)
  generalize (((((W.setCell ⟨n + 1, 0, none⟩ b0).setCell ⟨n + 1, 1, none⟩ b1).setCell ⟨n + 1, 2, none⟩ b2).setCell ⟨n + 1, 3, none⟩ b3).setCell ⟨n + 1, 4, none⟩ b4) = W' at hg hp ⊢
  refine ⟨⟨?_, ?_, s.I.hB⟩, Kd.R_grown s.O hg (fun k hk e => by have := Option.some.inj e; have := hk.2; omega), ?_, hp, pw_below_grown s.B _ s.B.size hg (fun k e => by cases e; exact hB), hn⟩
  · rw [hg.block b s.I.lt (fun e => by have := Option.some.inj e; omega)]; exact s.I.cell
  · exact Kd.R_mono (Kd.R_grown (Kd.R_types s.I.row s.E (by decide)) hg (fun k hk e => hk.2 (Option.some.inj e))) (fun _ hk => hk.1)
  · rw [hg.block n (by omega) (fun e => by have := Option.some.inj e; omega)]; exact s.X
/-- the map is written -/
theorem St.ref (s : St w W b n vm L vo out xc ec) {W' : World} {vm' : Value} {L' : List S98} (hI : RefIs W' w.heap.size b vm' L') (hg : W.grownBy W' (some b)) : St w W' b n vm' L' vo out xc ec := by
  have hlt := s.lt
  have hn := s.hn
  exact ⟨hI, Kd.R_grown s.O hg (fun k hk e => hk.1 (Option.some.inj e)), (hg.block n (by omega) (fun e => by have := Option.some.inj e; omega)).trans s.X, (hg.block (n + 1) hlt (fun e => by have := Option.some.inj e; omega)).trans s.E, pw_below_grown s.B _ s.B.size hg (fun k e => by cases e; exact s.I.hB), hn⟩
/-- the map's pointer behind an append to the row of events -/
theorem RefIs.over {W' : World} {ok : Nat → Prop} (h : RefIs W w.heap.size b vm L) (hO : Kd.R k43 43 W w.heap.size ok vo out) (hok : ∀ q, ok q → q ≠ b) (hg : W.grownBy W' vo.ownBlock) : RefIs W' w.heap.size b vm L :=
  ⟨(hg.block b h.lt (Kd.R_away hO hok)).trans h.cell, Kd.R_over' h.row (Kd.R_typed hO) (by decide) hg, h.hB⟩
/-- what an event's rows own stands apart from the map and the row of events -/
theorem St.apart (s : St w W b n vm L vo out xc ec) : ∀ k, n + 1 < k → k ≠ b ∧ some k ≠ vo.ownBlock := fun k hk => by
  have hn := s.hn
  exact ⟨by omega, fun e => by have := (s.O.1 k e.symm).2; omega⟩
end
structure OkRow (e : S43) (L L' : List S98) : Prop where
  Lw : L.length + e.f2.length ≤ 1048576
  L2 : L'.length ≤ 1048576
  sL : Short98 L
  sw : ∀ y ∈ e.f2, y.f0.size ≤ 1099511627776
  l3 : e.f3.length ≤ 1048576
  l4 : e.f4.length ≤ 1048576
  s3 : ∀ y ∈ e.f3, y.f2.size ≤ 1099511627776
  u3 : ∀ y ∈ e.f3, 0 ≤ y.f3 ∧ y.f3 ≤ 4294967295
  q0 : 0 ≤ e.f1
  q1 : e.f1 ≤ 4294967295
/-- what the walk of a row wants of what the row turns to -/
def okRow (e : S43) (L L' : List S98) : Bool :=
  decide (L.length + e.f2.length ≤ 1048576) && (decide (L'.length ≤ 1048576) && (L.all (fun y => decide (y.f0.size ≤ 1099511627776)) && (e.f2.all (fun y => decide (y.f0.size ≤ 1099511627776)) &&
  (decide (e.f3.length ≤ 1048576) && (decide (e.f4.length ≤ 1048576) && (e.f3.all (fun y => decide (y.f2.size ≤ 1099511627776) && (decide (0 ≤ y.f3) && decide (y.f3 ≤ 4294967295))) && (decide (0 ≤ e.f1) && decide (e.f1 ≤ 4294967295))))))))
theorem okRow_is {e : S43} {L L' : List S98} (h : okRow e L L' = true) : OkRow e L L' := by
  unfold okRow at h
  simp only [Bool.and_eq_true, decide_eq_true_eq, List.all_eq_true] at h
  obtain ⟨h1, h2, h3, h4, h5, h6, h7, h8, h9⟩ := h
  exact ⟨h1, h2, h3, h4, h5, h6, fun y hy => (h7 y hy).1, fun y hy => (h7 y hy).2, h8, h9⟩
end Go.Proofs.YtfaelejeihmgcaaDoor.Lgx
end

section
namespace Go.Proofs.YtfaelejeihmgcaaDoor.Lgx
open Go.RowKit Go.Proofs.YtfaelejeihmgcaaDoorW.PrintWords Go.Proofs.YtfaelejeihmgcaaDoorW.PrintLast Go.Proofs.YtfaelejeihmgcaaDoorW.PrintMore
attribute [local go_sem] max2_int min2_int max_two min_two max_three min_three max_four min_four   -- for this text's walks alone
set_option linter.unusedVariables false
set_option linter.unusedSimpArgs false
mutual
def cachepotlaw21_short.l0 : Nat → List (S98) → Int → Int → Int → List (S101) → List (S98) → List ByteArray → Option (Int × Int × (List (S101)) × (List (S98)) × List ByteArray)
  | 0, _, _, _, _, _, _, _ => none
  | k + 1, x3, x4, x192000, x192001, x192002, x192003, x192004 => if x4 < (x192003.length : Int) then (cachepotlaw21_short.j1 k x3 x4 (decide (x4 < 6)) x192000 x192001 x192002 x192003 x192004) else (cachepotlaw21_short.j1 k x3 x4 false x192000 x192001 x192002 x192003 x192004)
def cachepotlaw21_short.j1 : Nat → List (S98) → Int → Bool → Int → Int → List (S101) → List (S98) → List ByteArray → Option (Int × Int × (List (S101)) × (List (S98)) × List ByteArray)
  | 0, _, _, _, _, _, _, _, _ => none
  | k + 1, x3, x4, x26, x192000, x192001, x192002, x192003, x192004 => if x26 = true then (if 0 ≤ x4 then (if x4 < (x192003.length : Int) then ((cachepotbook_Short.f ((rd_T98 x192003 x4).f0) 40).bind fun t202 => ((cachepotbook_Short.f ((rd_T98 x192003 x4).f2) 40).bind fun t203 => (if x3.length < 2932031007402 then (cachepotlaw21_short.l0 k (x3 ++ [(⟨t202, (rd_T98 x192003 x4).f1, t203, (rd_T98 x192003 x4).f3⟩ : S98)]) (wrap64 (x4 + 1)) x192000 x192001 x192002 x192003 x192004) else (none)))) else (none)) else (none)) else (some (x192000, x192001, x192002, x3, x192004))
end
def cachepotlaw21_short.f (k : Nat) (a0_0 : Int) (a0_1 : Int) (l0_2 : List (S101)) (l0_3 : List (S98)) (l0_4 : List ByteArray) : Option (Int × Int × (List (S101)) × (List (S98)) × List ByteArray) := (cachepotbook_Pick.f a0_0 5).bind fun t193 => ((cachepotbook_Writes.f k l0_2 6).bind fun t194 => ((cachepotbook_Texts.f k l0_4 6 40).bind fun t197 => (cachepotlaw21_short.l0 k ([] : List (S98)) 0 t193 a0_1 t194 l0_3 t197)))
def cachepotlaw21_short.T9 : Bool × List (List Nat × List Nat) := (true, [([], []), ([0], [0]), ([1], [1]), ([], []), ([3], [3]), ([4, 2], [4]), ([0, 1, 2, 3, 4], []), ([6, 2, 5, 0, 1, 2, 3, 4], [2, 6]), ([0, 1, 2, 3, 4, 5, 6, 7], []), ([8, 5, 7, 0, 1, 2, 3, 4, 5, 6, 7], [5, 8])])
def cachepotlaw21_short.B9 : List Nat := [0, 1, 3, 0, 8, 31, 31, 127, 255, 511]
theorem cachepotlaw21_short.tab9 : rtab .any (opsOf Tryd.f39 9) = cachepotlaw21_short.T9 := by kernel_rfl
theorem cachepotlaw21_short.bits9 : waitsOk cachepotlaw21_short.T9.2 cachepotlaw21_short.B9 = true := by kernel_rfl
set_option maxHeartbeats 8000000 in
set_option maxRecDepth 100000 in
theorem cachepotlaw21_short.calls (k : Nat) (a0_0 : Int) (a0_1 : Int) (A0_2 : Option Addr) (c0_2 : Nat) (l0_2 : List (S101)) (A0_3 : Option Addr) (c0_3 : Nat) (l0_3 : List (S98)) (A0_4 : Option Addr) (c0_4 : Nat) (l0_4 : List ByteArray) (r1 : Int) (r2 : Int) (r3 : List (S101)) (r4 : List (S98)) (r5 : List ByteArray) (w : World) (hr0_2 : Kd.C k101 w A0_2 l0_2.length l0_2) (hc0_2 : l0_2.length ≤ c0_2) (hr0_3 : Kd.C k98 w A0_3 l0_3.length l0_3) (hc0_3 : l0_3.length ≤ c0_3) (hr0_4 : Kd.C Kd.string w A0_4 l0_4.length l0_4) (hc0_4 : l0_4.length ≤ c0_4) (h : cachepotlaw21_short.f k a0_0 a0_1 l0_2 l0_3 l0_4 = some (r1, r2, r3, r4, r5)) :
    Calls Tryd.prog 39 #[.agg #[.int .i64 a0_0, .int .u32 a0_1, .slice A0_2 l0_2.length c0_2, .slice A0_3 l0_3.length c0_3, .slice A0_4 l0_4.length c0_4]] w fun e w' => ∃ v2_ v3_ v4_ : Value, e = .returned (.agg #[.int .i64 r1, .int .u32 r2, v2_, v3_, v4_]) ∧ Kd.R k101 101 w' w.heap.size (fun _ => True) v2_ r3 ∧ Kd.R k98 98 w' w.heap.size (fun _ => True) v3_ r4 ∧ Kd.R Kd.string 9 w' w.heap.size (fun _ => True) v4_ r5 ∧ Below w.heap.size w w' := by
  have hu43 := Tryd.underlying43
  have hu98 := Tryd.underlying98
  have HR0_2 := Aside0.mk hr0_2
  have HC0_2 := Aside0.mk hc0_2
  clear hr0_2 hc0_2
  have HR0_3 := Aside0.mk hr0_3
  have HC0_3 := Aside0.mk hc0_3
  clear hr0_3 hc0_3
  have HR0_4 := Aside0.mk hr0_4
  have HC0_4 := Aside0.mk hc0_4
  clear hr0_4 hc0_4
  have HB := Aside0.mk (Below.refl w.heap.size w)
  have H : ((cachepotbook_Pick.f a0_0 5).bind fun t193 => ((cachepotbook_Writes.f k l0_2 6).bind fun t194 => ((cachepotbook_Texts.f k l0_4 6 40).bind fun t197 => (cachepotlaw21_short.l0 k ([] : List (S98)) 0 t193 a0_1 t194 l0_3 t197)))) = some (r1, r2, r3, r4, r5) := h
  clear h
  replace H := Option.bind_eq_some_iff.mp H
  obtain ⟨t193, A20, H⟩ := H
  replace H : ((cachepotbook_Writes.f k l0_2 6).bind fun t194 => ((cachepotbook_Texts.f k l0_4 6 40).bind fun t197 => (cachepotlaw21_short.l0 k ([] : List (S98)) 0 t193 a0_1 t194 l0_3 t197))) = some (r1, r2, r3, r4, r5) := H
  have A2 := Aside0.mk A20
  clear A20
  replace H := Option.bind_eq_some_iff.mp H
  obtain ⟨t194, A30, H⟩ := H
  replace H : ((cachepotbook_Texts.f k l0_4 6 40).bind fun t197 => (cachepotlaw21_short.l0 k ([] : List (S98)) 0 t193 a0_1 t194 l0_3 t197)) = some (r1, r2, r3, r4, r5) := H
  have A3 := Aside0.mk A30
  clear A30
  replace H := Option.bind_eq_some_iff.mp H
  obtain ⟨t197, A40, H⟩ := H
  replace H : (cachepotlaw21_short.l0 k ([] : List (S98)) 0 t193 a0_1 t194 l0_3 t197) = some (r1, r2, r3, r4, r5) := H
  have A4 := Aside0.mk A40
  clear A40
  have H' := Aside0.mk H
  clear H
  go_enter Tryd.func39, Tryd.ntmps39
  go_wp2_with (first | ((with_reducible refine gate_dst (N := 1) rfl ?_); refine box_event ?hg (N := 1) ?hd (cs := #[.int .i64 a0_0, .int .u32 a0_1, .slice A0_2 l0_2.length c0_2, .slice A0_3 l0_3.length c0_3, .slice A0_4 l0_4.length c0_4]) (t := 43) ?hr ?_; (case hd => rfl); (case hg => rfl); (case hr => first | (go_simp; done) | (go_simp; rfl)); intro gb191 hg w5 hbox hb; have n0_ := Aside0.mk (below_step (by repeat (first | (with_reducible first | exact HB.out | apply below_alloc | apply pw_below_drewN | apply below_drew1) | exact HB.out)) hb); have n1_ := Aside0.mk (hbox); have n2_ := Aside0.mk ((by rw [hg]; exact (below_size (by repeat (first | (with_reducible first | exact HB.out | apply below_alloc | apply pw_below_drewN | apply below_drew1) | exact HB.out))) : w.heap.size ≤ gb191)); have n3_ := Aside0.mk ((by rw [hg]; exact (below_size (by repeat (first | (with_reducible first | exact HB.out | apply below_alloc | apply pw_below_drewN | apply below_drew1) | exact HB.out))) : w.heap.size ≤ gb191)); clear HB; have HB := n0_; have BK191 := n1_; have GW191 := n2_; have GE191 := n3_; clear n0_ n1_ n2_ n3_; clear hb hbox hg) | ((with_reducible refine gate_dst (N := 2) rfl ?_); refine box_event ?hg (N := 2) ?hd (cs := #[.int .i64 0, .int .u32 0, .slice none 0 0, .slice none 0 0, .slice none 0 0]) (t := 43) ?hr ?_; (case hd => rfl); (case hg => rfl); (case hr => first | (go_simp; done) | (go_simp; rfl)); intro gb192 hg w6 hbox hb; have n0_ := Aside0.mk (blk_below (g := gb191) (o := .cells #[.int .i64 a0_0, .int .u32 a0_1, .slice A0_2 l0_2.length c0_2, .slice A0_3 l0_3.length c0_3, .slice A0_4 l0_4.length c0_4] 43 (0, 0)) (by (with_reducible repeat (first | refine blk_drewN ?_ _ | refine blk_drew ?_ | refine blk_alloc ?_ _)); exact BK191.out) hb); have n1_ := Aside0.mk (below_step (by repeat (first | (with_reducible first | exact HB.out | apply below_alloc | apply pw_below_drewN | apply below_drew1 | refine below_set ?_ GE191.out) | exact HB.out)) hb); have n2_ := Aside0.mk (hbox); have n3_ := Aside0.mk ((by rw [hg]; exact (below_size (by repeat (first | (with_reducible first | exact HB.out | apply below_alloc | apply pw_below_drewN | apply below_drew1 | refine below_set ?_ GE191.out) | exact HB.out))) : w.heap.size ≤ gb192)); have n4_ := Aside0.mk ((by rw [hg]; exact (below_size (by repeat (first | (with_reducible first | exact HB.out | apply below_alloc | apply pw_below_drewN | apply below_drew1 | refine below_set ?_ GE191.out) | exact HB.out))) : w.heap.size ≤ gb192)); have n5_ := Aside0.mk ((by rw [hg]; exact Nat.ne_of_lt (blk_lt (g := gb191) (o := .cells #[.int .i64 a0_0, .int .u32 a0_1, .slice A0_2 l0_2.length c0_2, .slice A0_3 l0_3.length c0_3, .slice A0_4 l0_4.length c0_4] 43 (0, 0)) (by (with_reducible repeat (first | refine blk_drewN ?_ _ | refine blk_drew ?_ | refine blk_alloc ?_ _)); exact BK191.out)) : gb191 ≠ gb192)); have n6_ := Aside0.mk ((by rw [hg]; exact Nat.ne_of_gt (blk_lt (g := gb191) (o := .cells #[.int .i64 a0_0, .int .u32 a0_1, .slice A0_2 l0_2.length c0_2, .slice A0_3 l0_3.length c0_3, .slice A0_4 l0_4.length c0_4] 43 (0, 0)) (by (with_reducible repeat (first | refine blk_drewN ?_ _ | refine blk_drew ?_ | refine blk_alloc ?_ _)); exact BK191.out)) : gb192 ≠ gb191)); clear BK191; clear HB; have BK191 := n0_; have HB := n1_; have BK192 := n2_; have GW192 := n3_; have GE192 := n4_; have NB191_192 := n5_; have NB192_191 := n6_; clear n0_ n1_ n2_ n3_ n4_ n5_ n6_; clear hb hbox hg; have hnb7 := NB191_192.out; have hnc7 := NB192_191.out; have hcz8_0 : w6.cell? ⟨gb191, 0, none⟩ = some (.int .i64 a0_0) := (blk_cell BK191.out 0).trans rfl; have hcz8_1 : w6.cell? ⟨gb191, 1, none⟩ = some (.int .u32 a0_1) := (blk_cell BK191.out 1).trans rfl; have hcz8_2 : w6.cell? ⟨gb191, 2, none⟩ = some (.slice A0_2 l0_2.length c0_2) := (blk_cell BK191.out 2).trans rfl; have hcz8_3 : w6.cell? ⟨gb191, 3, none⟩ = some (.slice A0_3 l0_3.length c0_3) := (blk_cell BK191.out 3).trans rfl; have hcz8_4 : w6.cell? ⟨gb191, 4, none⟩ = some (.slice A0_4 l0_4.length c0_4) := (blk_cell BK191.out 4).trans rfl; have hfz8_0 := blk_frozen BK191.out 0; have hfz8_1 := blk_frozen BK191.out 1; have hfz8_2 := blk_frozen BK191.out 2; have hfz8_3 := blk_frozen BK191.out 3; have hfz8_4 := blk_frozen BK191.out 4) | ((with_reducible refine gate_callee (f := 25) rfl ?_); refine goesL_ (some 8) rfl rfl Tryd.func25 (by kernel_rfl) rfl #[.int .i64 a0_0, .int .i64 5] rfl (by (try simp only [List.map_toArray, List.map_cons, List.map_nil]); first | done | rfl | (simp only [List.length_drop, List.length_take]; rfl)) ?_; (with_reducible refine (cachepotbook_Pick.calls a0_0 5 t193 _ A2.out).mono ?_); rintro e w' ⟨rfl, ⟨nd, rfl⟩⟩; refine ⟨_, rfl, ?_⟩; (try (rw [drewN_self w6]; generalize hq_ : World.drewN w6 _ = w6; have n0_ : Aside0 (w6.heap[gb191]? = some (.cells #[.int .i64 a0_0, .int .u32 a0_1, .slice A0_2 l0_2.length c0_2, .slice A0_3 l0_3.length c0_3, .slice A0_4 l0_4.length c0_4] 43 (0, 0))) := ⟨by rw [← hq_]; exact (by (with_reducible repeat (first | refine blk_drewN ?_ _ | refine blk_drew ?_ | refine blk_alloc ?_ _)); exact BK191.out)⟩; have n1_ : Aside0 (w6.heap[gb192]? = some (.cells #[.int .i64 0, .int .u32 0, .slice none 0 0, .slice none 0 0, .slice none 0 0] 43 (0, 0))) := ⟨by rw [← hq_]; exact (by (with_reducible repeat (first | refine blk_drewN ?_ _ | refine blk_drew ?_ | refine blk_alloc ?_ _)); exact BK192.out)⟩; have n2_ : Aside0 (Below w.heap.size w w6) := ⟨by rw [← hq_]; exact (by repeat (first | (with_reducible first | exact HB.out | apply below_alloc | apply pw_below_drewN | apply below_drew1 | refine below_set ?_ GE191.out | refine below_set ?_ GE192.out) | exact HB.out))⟩; clear BK191 BK192 HB hq_; have BK191 := n0_; have BK192 := n1_; have HB := n2_; clear n0_ n1_ n2_; have hqz0_0 : w6.cell? ⟨gb191, 0, none⟩ = some (.int .i64 a0_0) := (blk_cell BK191.out 0).trans rfl; have hqf0_0 := blk_frozen BK191.out 0; have hqz0_1 : w6.cell? ⟨gb191, 1, none⟩ = some (.int .u32 a0_1) := (blk_cell BK191.out 1).trans rfl; have hqf0_1 := blk_frozen BK191.out 1; have hqz0_2 : w6.cell? ⟨gb191, 2, none⟩ = some (.slice A0_2 l0_2.length c0_2) := (blk_cell BK191.out 2).trans rfl; have hqf0_2 := blk_frozen BK191.out 2; have hqz0_3 : w6.cell? ⟨gb191, 3, none⟩ = some (.slice A0_3 l0_3.length c0_3) := (blk_cell BK191.out 3).trans rfl; have hqf0_3 := blk_frozen BK191.out 3; have hqz0_4 : w6.cell? ⟨gb191, 4, none⟩ = some (.slice A0_4 l0_4.length c0_4) := (blk_cell BK191.out 4).trans rfl; have hqf0_4 := blk_frozen BK191.out 4; have hqz1_0 : w6.cell? ⟨gb192, 0, none⟩ = some (.int .i64 0) := (blk_cell BK192.out 0).trans rfl; have hqf1_0 := blk_frozen BK192.out 0; have hqz1_1 : w6.cell? ⟨gb192, 1, none⟩ = some (.int .u32 0) := (blk_cell BK192.out 1).trans rfl; have hqf1_1 := blk_frozen BK192.out 1; have hqz1_2 : w6.cell? ⟨gb192, 2, none⟩ = some (.slice none 0 0) := (blk_cell BK192.out 2).trans rfl; have hqf1_2 := blk_frozen BK192.out 2; have hqz1_3 : w6.cell? ⟨gb192, 3, none⟩ = some (.slice none 0 0) := (blk_cell BK192.out 3).trans rfl; have hqf1_3 := blk_frozen BK192.out 3; have hqz1_4 : w6.cell? ⟨gb192, 4, none⟩ = some (.slice none 0 0) := (blk_cell BK192.out 4).trans rfl; have hqf1_4 := blk_frozen BK192.out 4))) | ((with_reducible refine gate_callee (f := 78) rfl ?_); refine goesL_ (some 12) rfl rfl Tryd.func78 (by kernel_rfl) rfl #[.slice A0_2 l0_2.length c0_2, .int .i64 6] rfl (by (try simp only [List.map_toArray, List.map_cons, List.map_nil]); first | done | rfl | (simp only [List.length_drop, List.length_take]; rfl)) ?_; (with_reducible refine (cachepotbook_Writes.calls k _ _ l0_2 6 t194 _ ?side1 ?side2 A3.out).mono ?_); (case side1 => exact Kd.C_below HR0_2.out (by repeat (first | (with_reducible first | exact HB.out | apply below_alloc | apply pw_below_drewN | apply below_drew1 | refine below_set ?_ GE191.out | refine below_set ?_ GE192.out) | exact HB.out))); (case side2 => exact HC0_2.out); rintro e w9 ⟨v195, rfl, ho0, hb⟩; refine ⟨_, rfl, ?_⟩; have n0_ := Aside0.mk (Kd.R_lower ho0 (below_size (by repeat (first | (with_reducible first | exact HB.out | apply below_alloc | apply pw_below_drewN | apply below_drew1 | refine below_set ?_ GE191.out | refine below_set ?_ GE192.out) | exact HB.out)))); have n1_ := Aside0.mk (blk_below (g := gb191) (o := .cells #[.int .i64 t193, .int .u32 a0_1, .slice A0_2 l0_2.length c0_2, .slice A0_3 l0_3.length c0_3, .slice A0_4 l0_4.length c0_4] 43 (0, 0)) (by (with_reducible repeat (first | refine blk_drewN ?_ _ | refine blk_drew ?_ | refine blk_alloc ?_ _)); refine blk_put (cs := #[.int .i64 a0_0, .int .u32 a0_1, .slice A0_2 l0_2.length c0_2, .slice A0_3 l0_3.length c0_3, .slice A0_4 l0_4.length c0_4]) ?_ 0 _ rfl; (with_reducible repeat (first | refine blk_drewN ?_ _ | refine blk_drew ?_ | refine blk_alloc ?_ _)); exact BK191.out) hb); have n2_ := Aside0.mk (blk_below (g := gb192) (o := .cells #[.int .i64 0, .int .u32 0, .slice none 0 0, .slice none 0 0, .slice none 0 0] 43 (0, 0)) (by (with_reducible repeat (first | refine blk_drewN ?_ _ | refine blk_drew ?_ | refine blk_alloc ?_ _)); refine blk_far ?_ NB192_191.out _; (with_reducible repeat (first | refine blk_drewN ?_ _ | refine blk_drew ?_ | refine blk_alloc ?_ _)); exact BK192.out) hb); have n3_ := Aside0.mk (below_step (by repeat (first | (with_reducible first | exact HB.out | apply below_alloc | apply pw_below_drewN | apply below_drew1 | refine below_set ?_ GE191.out | refine below_set ?_ GE192.out) | exact HB.out)) hb); clear BK191; clear BK192; clear HB; have HO196 := n0_; have BK191 := n1_; have BK192 := n2_; have HB := n3_; clear n0_ n1_ n2_ n3_; (try clear hb); (try clear hb2); (try clear hk); (try clear hi); (try clear ho0); obtain ⟨Ao10, co10, eo10⟩ := Kd.R_slice HO196.out; subst eo10; have hcz11_0 : w9.cell? ⟨gb191, 0, none⟩ = some (.int .i64 t193) := (blk_cell BK191.out 0).trans rfl; have hcz11_1 : w9.cell? ⟨gb191, 1, none⟩ = some (.int .u32 a0_1) := (blk_cell BK191.out 1).trans rfl; have hcz11_2 : w9.cell? ⟨gb191, 2, none⟩ = some (.slice A0_2 l0_2.length c0_2) := (blk_cell BK191.out 2).trans rfl; have hcz11_3 : w9.cell? ⟨gb191, 3, none⟩ = some (.slice A0_3 l0_3.length c0_3) := (blk_cell BK191.out 3).trans rfl; have hcz11_4 : w9.cell? ⟨gb191, 4, none⟩ = some (.slice A0_4 l0_4.length c0_4) := (blk_cell BK191.out 4).trans rfl; have hfz11_0 := blk_frozen BK191.out 0; have hfz11_1 := blk_frozen BK191.out 1; have hfz11_2 := blk_frozen BK191.out 2; have hfz11_3 := blk_frozen BK191.out 3; have hfz11_4 := blk_frozen BK191.out 4) | ((with_reducible refine gate_callee (f := 24) rfl ?_); refine goesL_ (some 16) rfl rfl Tryd.func24 (by kernel_rfl) rfl #[.slice A0_4 l0_4.length c0_4, .int .i64 6, .int .i64 40] rfl (by (try simp only [List.map_toArray, List.map_cons, List.map_nil]); first | done | rfl | (simp only [List.length_drop, List.length_take]; rfl)) ?_; (with_reducible refine (cachepotbook_Texts.calls k _ _ l0_4 6 40 t197 _ ?side1 ?side2 A4.out).mono ?_); (case side1 => exact Kd.C_below HR0_4.out (by repeat (first | (with_reducible first | exact HB.out | apply below_alloc | apply pw_below_drewN | apply below_drew1 | refine below_set ?_ GE191.out | refine below_set ?_ GE192.out) | exact HB.out))); (case side2 => exact HC0_4.out); rintro e w12 ⟨v198, rfl, ho0, hb⟩; refine ⟨_, rfl, ?_⟩; have n0_ := Aside0.mk (Kd.R_below (by (with_reducible repeat (first | apply Kd.R_alloc | apply Kd.R_drewN | apply Kd.R_drew)); exact (Kd.R_mono (Kd.R_far (p := ⟨gb191, 2, none⟩) (Kd.R_types HO196.out BK191.out (by decide)) (fun _ hk => hk.2) (.slice Ao10 t194.length co10)) (fun _ h_ => h_.1))) hb); have n1_ := Aside0.mk (Kd.R_lower ho0 (below_size (by repeat (first | (with_reducible first | exact HB.out | apply below_alloc | apply pw_below_drewN | apply below_drew1 | refine below_set ?_ GE191.out | refine below_set ?_ GE192.out) | exact HB.out)))); have n2_ := Aside0.mk (blk_below (g := gb191) (o := .cells #[.int .i64 t193, .int .u32 a0_1, .slice Ao10 t194.length co10, .slice A0_3 l0_3.length c0_3, .slice A0_4 l0_4.length c0_4] 43 (0, 0)) (by (with_reducible repeat (first | refine blk_drewN ?_ _ | refine blk_drew ?_ | refine blk_alloc ?_ _)); refine blk_put (cs := #[.int .i64 t193, .int .u32 a0_1, .slice A0_2 l0_2.length c0_2, .slice A0_3 l0_3.length c0_3, .slice A0_4 l0_4.length c0_4]) ?_ 2 _ rfl; (with_reducible repeat (first | refine blk_drewN ?_ _ | refine blk_drew ?_ | refine blk_alloc ?_ _)); exact BK191.out) hb); have n3_ := Aside0.mk (blk_below (g := gb192) (o := .cells #[.int .i64 0, .int .u32 0, .slice none 0 0, .slice none 0 0, .slice none 0 0] 43 (0, 0)) (by (with_reducible repeat (first | refine blk_drewN ?_ _ | refine blk_drew ?_ | refine blk_alloc ?_ _)); refine blk_far ?_ NB192_191.out _; (with_reducible repeat (first | refine blk_drewN ?_ _ | refine blk_drew ?_ | refine blk_alloc ?_ _)); exact BK192.out) hb); have n4_ := Aside0.mk (below_step (by repeat (first | (with_reducible first | exact HB.out | apply below_alloc | apply pw_below_drewN | apply below_drew1 | refine below_set ?_ GE191.out | refine below_set ?_ GE192.out) | exact HB.out)) hb); clear HO196; clear BK191; clear BK192; clear HB; have HO196 := n0_; have HO199 := n1_; have BK191 := n2_; have BK192 := n3_; have HB := n4_; clear n0_ n1_ n2_ n3_ n4_; (try clear hb); (try clear hb2); (try clear hk); (try clear hi); (try clear ho0); obtain ⟨Ao13, co13, eo13⟩ := Kd.R_slice HO199.out; subst eo13; have hcz14_0 : w12.cell? ⟨gb191, 0, none⟩ = some (.int .i64 t193) := (blk_cell BK191.out 0).trans rfl; have hcz14_1 : w12.cell? ⟨gb191, 1, none⟩ = some (.int .u32 a0_1) := (blk_cell BK191.out 1).trans rfl; have hcz14_2 : w12.cell? ⟨gb191, 2, none⟩ = some (.slice Ao10 t194.length co10) := (blk_cell BK191.out 2).trans rfl; have hcz14_3 : w12.cell? ⟨gb191, 3, none⟩ = some (.slice A0_3 l0_3.length c0_3) := (blk_cell BK191.out 3).trans rfl; have hcz14_4 : w12.cell? ⟨gb191, 4, none⟩ = some (.slice A0_4 l0_4.length c0_4) := (blk_cell BK191.out 4).trans rfl; have hfz14_0 := blk_frozen BK191.out 0; have hfz14_1 := blk_frozen BK191.out 1; have hfz14_2 := blk_frozen BK191.out 2; have hfz14_3 := blk_frozen BK191.out 3; have hfz14_4 := blk_frozen BK191.out 4))
  go_loopg [3, 4] k (fun kq v3 v4 w' => ∃ (x3_1 : List (S98)) (x4_1 : Int), v4 = .int .i64 x4_1 ∧ Aside0 (cachepotlaw21_short.l0 kq x3_1 x4_1 t193 a0_1 t194 l0_3 t197 = some (r1, r2, r3, r4, r5)) ∧ Aside0 (kq ≤ k) ∧ Aside0 (Kd.R k98 98 w' w.heap.size (fun _ => True) v3 x3_1) ∧ Aside0 (Kd.R k101 101 w' w.heap.size (fun _ => True) (.slice Ao10 t194.length co10) t194) ∧ Aside0 (Kd.R Kd.string 9 w' w.heap.size (fun _ => True) (.slice Ao13 t197.length co13) t197) ∧ Aside0 (w'.heap[gb191]? = some (.cells #[.int .i64 t193, .int .u32 a0_1, (.slice Ao10 t194.length co10), (.slice A0_3 l0_3.length c0_3), (.slice Ao13 t197.length co13)] 43 (0, 0))) ∧ Aside0 (w'.heap[gb192]? = some (.cells #[.int .i64 0, .int .u32 0, (.slice none 0 0), (.slice none 0 0), (.slice none 0 0)] 43 (0, 0))) ∧ Aside0 (Below w.heap.size w w'))
  case atStart => exact ⟨(([] : List (S98))), (0), (by first | rfl | (simp; done) | (simp [*]; done)), H', ⟨Nat.le_refl _⟩, ⟨by first | exact Kd.R_nil _ _ _ _ _ | exact Kd.N_nil _ _ _ _ _ | exact Kd.V_nil _ _ _ _ _ | exact Kd.Q_nil _ _ _ _ _ | exact Kd.S_nil _ _ _ _ _⟩, ⟨by (with_reducible repeat (first | apply Kd.R_alloc | apply Kd.R_drewN | apply Kd.R_drew)); exact Kd.R_mono (Kd.R_far (p := ⟨gb191, 4, none⟩) (Kd.R_types HO196.out BK191.out (by decide)) (fun _ hk => hk.2) (.slice Ao13 t197.length co13)) (fun _ hk => trivial)⟩, ⟨by (with_reducible repeat (first | apply Kd.R_alloc | apply Kd.R_drewN | apply Kd.R_drew)); exact Kd.R_mono (Kd.R_far (p := ⟨gb191, 4, none⟩) (Kd.R_types HO199.out BK191.out (by decide)) (fun _ hk => hk.2) (.slice Ao13 t197.length co13)) (fun _ hk => trivial)⟩, ⟨by (with_reducible repeat (first | refine blk_drewN ?_ _ | refine blk_drew ?_ | refine blk_alloc ?_ _)); refine blk_put (cs := #[.int .i64 t193, .int .u32 a0_1, .slice Ao10 t194.length co10, .slice A0_3 l0_3.length c0_3, .slice A0_4 l0_4.length c0_4]) ?_ 4 _ rfl; (with_reducible repeat (first | refine blk_drewN ?_ _ | refine blk_drew ?_ | refine blk_alloc ?_ _)); exact BK191.out⟩, ⟨by (with_reducible repeat (first | refine blk_drewN ?_ _ | refine blk_drew ?_ | refine blk_alloc ?_ _)); refine blk_far ?_ NB192_191.out _; (with_reducible repeat (first | refine blk_drewN ?_ _ | refine blk_drew ?_ | refine blk_alloc ?_ _)); exact BK192.out⟩, ⟨by repeat (first | (with_reducible first | exact HB.out | apply below_alloc | apply pw_below_drewN | apply below_drew1 | refine below_set ?_ GE191.out | refine below_set ?_ GE192.out) | exact HB.out)⟩⟩
  case round =>
    clear H'
    try clear c2
    try clear p2
    try clear c3
    try clear c7
    try clear hcz11_0
    try clear hcz11_1
    try clear hcz11_2
    try clear hcz11_3
    try clear hcz11_4
    try clear hcz14_0
    try clear hcz14_1
    try clear hcz14_2
    try clear hcz14_3
    try clear hcz14_4
    try clear hcz8_0
    try clear hcz8_1
    try clear hcz8_2
    try clear hcz8_3
    try clear hcz8_4
    try clear hfz11_0
    try clear hfz11_1
    try clear hfz11_2
    try clear hfz11_3
    try clear hfz11_4
    try clear hfz14_0
    try clear hfz14_1
    try clear hfz14_2
    try clear hfz14_3
    try clear hfz14_4
    try clear hfz8_0
    try clear hfz8_1
    try clear hfz8_2
    try clear hfz8_3
    try clear hfz8_4
    obtain ⟨x3_1, x4_1, rfl, HA, HK1, HO_3, HO_192002, HO_192004, BK191, BK192, HB⟩ := hrel
    cases gk with
    | zero => exact absurd HA.out (by simp [cachepotlaw21_short.l0])
    | succ k1 =>
      have H := HA.out
      clear HA
      simp only [cachepotlaw21_short.l0] at H
      have HC15 := Aside0.mk H
      clear H
      go_upto_region 6 with (fail)
      go_cut [26] (fun v26 wc => ∃ (kq : Nat) (x26_14 : Bool), v26 = .bool x26_14 ∧ Aside0 (cachepotlaw21_short.j1 kq x3_1 x4_1 x26_14 t193 a0_1 t194 l0_3 t197 = some (r1, r2, r3, r4, r5)) ∧ Aside0 (kq ≤ k1) ∧ Aside0 (Kd.R k98 98 wc w.heap.size (fun _ => True) u3 x3_1) ∧ Aside0 (Kd.R k101 101 wc w.heap.size (fun _ => True) (.slice Ao10 t194.length co10) t194) ∧ Aside0 (Kd.R Kd.string 9 wc w.heap.size (fun _ => True) (.slice Ao13 t197.length co13) t197) ∧ Aside0 (wc.heap[gb191]? = some (.cells #[.int .i64 t193, .int .u32 a0_1, (.slice Ao10 t194.length co10), (.slice A0_3 l0_3.length c0_3), (.slice Ao13 t197.length co13)] 43 (0, 0))) ∧ Aside0 (wc.heap[gb192]? = some (.cells #[.int .i64 0, .int .u32 0, (.slice none 0 0), (.slice none 0 0), (.slice none 0 0)] 43 (0, 0))) ∧ Aside0 (Below w.heap.size w wc))
      case first =>
        have H := HC15.out
        clear HC15
        by_cases c16 : x4_1 < (l0_3.length : Int)
        · rw [if_pos c16] at H
          have c16b0 : decide (x4_1 < (l0_3.length : Int)) = true := decide_eq_true c16
          clear c16
          (first | rw [c16b0] | (simp only [i64_w, i32_w]; rw [c16b0]) | skip)
          have H' := Aside0.mk H
          clear H
          have hnb17 := NB191_192.out
          have hnc17 := NB192_191.out
          have hcz18_0 : wr.cell? ⟨gb191, 0, none⟩ = some (.int .i64 t193) := (blk_cell BK191.out 0).trans rfl
          have hcz18_1 : wr.cell? ⟨gb191, 1, none⟩ = some (.int .u32 a0_1) := (blk_cell BK191.out 1).trans rfl
          have hcz18_2 : wr.cell? ⟨gb191, 2, none⟩ = some (.slice Ao10 t194.length co10) := (blk_cell BK191.out 2).trans rfl
          have hcz18_3 : wr.cell? ⟨gb191, 3, none⟩ = some (.slice A0_3 l0_3.length c0_3) := (blk_cell BK191.out 3).trans rfl
          have hcz18_4 : wr.cell? ⟨gb191, 4, none⟩ = some (.slice Ao13 t197.length co13) := (blk_cell BK191.out 4).trans rfl
          have hfz18_0 := blk_frozen BK191.out 0
          have hfz18_1 := blk_frozen BK191.out 1
          have hfz18_2 := blk_frozen BK191.out 2
          have hfz18_3 := blk_frozen BK191.out 3
          have hfz18_4 := blk_frozen BK191.out 4
          go_wp2
          go_meet
          case rel => exact ⟨_, (decide (x4_1 < 6)), (by first | rfl | (simp; done) | (simp [*]; done)), H', ⟨by have := HK1.out; first | omega | exact Nat.le_refl _⟩, ⟨by (with_reducible repeat (first | apply Kd.R_alloc | apply Kd.R_drewN | apply Kd.R_drew)); exact HO_3.out⟩, ⟨by (with_reducible repeat (first | apply Kd.R_alloc | apply Kd.R_drewN | apply Kd.R_drew)); exact HO_192002.out⟩, ⟨by (with_reducible repeat (first | apply Kd.R_alloc | apply Kd.R_drewN | apply Kd.R_drew)); exact HO_192004.out⟩, ⟨by (with_reducible repeat (first | refine blk_drewN ?_ _ | refine blk_drew ?_ | refine blk_alloc ?_ _)); exact BK191.out⟩, ⟨by (with_reducible repeat (first | refine blk_drewN ?_ _ | refine blk_drew ?_ | refine blk_alloc ?_ _)); exact BK192.out⟩, ⟨by repeat (first | (with_reducible first | exact HB.out | apply below_alloc | apply pw_below_drewN | apply below_drew1 | refine below_set ?_ GE191.out | refine below_set ?_ GE192.out) | exact HB.out)⟩⟩
        · rw [if_neg c16] at H
          have c16b0 : decide (x4_1 < (l0_3.length : Int)) = false := decide_eq_false c16
          clear c16
          (first | rw [c16b0] | (simp only [i64_w, i32_w]; rw [c16b0]) | skip)
          have H' := Aside0.mk H
          clear H
          have hnb19 := NB191_192.out
          have hnc19 := NB192_191.out
          have hcz20_0 : wr.cell? ⟨gb191, 0, none⟩ = some (.int .i64 t193) := (blk_cell BK191.out 0).trans rfl
          have hcz20_1 : wr.cell? ⟨gb191, 1, none⟩ = some (.int .u32 a0_1) := (blk_cell BK191.out 1).trans rfl
          have hcz20_2 : wr.cell? ⟨gb191, 2, none⟩ = some (.slice Ao10 t194.length co10) := (blk_cell BK191.out 2).trans rfl
          have hcz20_3 : wr.cell? ⟨gb191, 3, none⟩ = some (.slice A0_3 l0_3.length c0_3) := (blk_cell BK191.out 3).trans rfl
          have hcz20_4 : wr.cell? ⟨gb191, 4, none⟩ = some (.slice Ao13 t197.length co13) := (blk_cell BK191.out 4).trans rfl
          have hfz20_0 := blk_frozen BK191.out 0
          have hfz20_1 := blk_frozen BK191.out 1
          have hfz20_2 := blk_frozen BK191.out 2
          have hfz20_3 := blk_frozen BK191.out 3
          have hfz20_4 := blk_frozen BK191.out 4
          go_wp2
          go_meet
          case rel => exact ⟨_, (false), (by first | rfl | (simp; done) | (simp [*]; done)), H', ⟨by have := HK1.out; first | omega | exact Nat.le_refl _⟩, ⟨by (with_reducible repeat (first | apply Kd.R_alloc | apply Kd.R_drewN | apply Kd.R_drew)); exact HO_3.out⟩, ⟨by (with_reducible repeat (first | apply Kd.R_alloc | apply Kd.R_drewN | apply Kd.R_drew)); exact HO_192002.out⟩, ⟨by (with_reducible repeat (first | apply Kd.R_alloc | apply Kd.R_drewN | apply Kd.R_drew)); exact HO_192004.out⟩, ⟨by (with_reducible repeat (first | refine blk_drewN ?_ _ | refine blk_drew ?_ | refine blk_alloc ?_ _)); exact BK191.out⟩, ⟨by (with_reducible repeat (first | refine blk_drewN ?_ _ | refine blk_drew ?_ | refine blk_alloc ?_ _)); exact BK192.out⟩, ⟨by repeat (first | (with_reducible first | exact HB.out | apply below_alloc | apply pw_below_drewN | apply below_drew1 | refine below_set ?_ GE191.out | refine below_set ?_ GE192.out) | exact HB.out)⟩⟩
      case rest =>
        clear HC15
        try clear c1
        try clear c2
        try clear p2
        try clear c3
        try clear c7
        try clear c16
        try clear c16b0
        try clear c17
        try clear c19
        try clear hcz11_0
        try clear hcz11_1
        try clear hcz11_2
        try clear hcz11_3
        try clear hcz11_4
        try clear hcz14_0
        try clear hcz14_1
        try clear hcz14_2
        try clear hcz14_3
        try clear hcz14_4
        try clear hcz18_0
        try clear hcz18_1
        try clear hcz18_2
        try clear hcz18_3
        try clear hcz18_4
        try clear hcz20_0
        try clear hcz20_1
        try clear hcz20_2
        try clear hcz20_3
        try clear hcz20_4
        try clear hcz8_0
        try clear hcz8_1
        try clear hcz8_2
        try clear hcz8_3
        try clear hcz8_4
        try clear hfz11_0
        try clear hfz11_1
        try clear hfz11_2
        try clear hfz11_3
        try clear hfz11_4
        try clear hfz14_0
        try clear hfz14_1
        try clear hfz14_2
        try clear hfz14_3
        try clear hfz14_4
        try clear hfz18_0
        try clear hfz18_1
        try clear hfz18_2
        try clear hfz18_3
        try clear hfz18_4
        try clear hfz20_0
        try clear hfz20_1
        try clear hfz20_2
        try clear hfz20_3
        try clear hfz20_4
        try clear hfz8_0
        try clear hfz8_1
        try clear hfz8_2
        try clear hfz8_3
        try clear hfz8_4
        try clear p2
        obtain ⟨kq, x26_14, rfl, HA, HJ14, HO_3, HO_192002, HO_192004, BK191, BK192, HB⟩ := hcut
        cases kq with
        | zero => exact absurd HA.out (by simp [cachepotlaw21_short.j1])
        | succ kj14 =>
          have H := HA.out
          clear HA
          simp only [cachepotlaw21_short.j1] at H
          by_cases c21 : x26_14 = true
          · subst c21
            have H1 : (if 0 ≤ x4_1 then (if x4_1 < (l0_3.length : Int) then ((cachepotbook_Short.f ((rd_T98 l0_3 x4_1).f0) 40).bind fun t202 => ((cachepotbook_Short.f ((rd_T98 l0_3 x4_1).f2) 40).bind fun t203 => (if x3_1.length < 2932031007402 then (cachepotlaw21_short.l0 kj14 (x3_1 ++ [(⟨t202, (rd_T98 l0_3 x4_1).f1, t203, (rd_T98 l0_3 x4_1).f3⟩ : S98)]) (wrap64 (x4_1 + 1)) t193 a0_1 t194 l0_3 t197) else (none)))) else (none)) else (none)) = some (r1, r2, r3, r4, r5) := by rw [if_pos rfl] at H; exact H
            clear H
            have H := H1
            clear H1
            by_cases c22 : 0 ≤ x4_1
            · rw [if_pos c22] at H
              have c22b0 : decide (0 ≤ x4_1) = true := decide_eq_true c22
              clear c22
              by_cases c23 : x4_1 < (l0_3.length : Int)
              · rw [if_pos c23] at H
                have c23b0 : decide (x4_1 < (l0_3.length : Int)) = true := decide_eq_true c23
                clear c23
                replace H := Option.bind_eq_some_iff.mp H
                obtain ⟨t202, A240, H⟩ := H
                replace H : ((cachepotbook_Short.f ((rd_T98 l0_3 x4_1).f2) 40).bind fun t203 => (if x3_1.length < 2932031007402 then (cachepotlaw21_short.l0 kj14 (x3_1 ++ [(⟨t202, (rd_T98 l0_3 x4_1).f1, t203, (rd_T98 l0_3 x4_1).f3⟩ : S98)]) (wrap64 (x4_1 + 1)) t193 a0_1 t194 l0_3 t197) else (none))) = some (r1, r2, r3, r4, r5) := H
                have A24 := Aside0.mk A240
                clear A240
                replace H := Option.bind_eq_some_iff.mp H
                obtain ⟨t203, A250, H⟩ := H
                replace H : (if x3_1.length < 2932031007402 then (cachepotlaw21_short.l0 kj14 (x3_1 ++ [(⟨t202, (rd_T98 l0_3 x4_1).f1, t203, (rd_T98 l0_3 x4_1).f3⟩ : S98)]) (wrap64 (x4_1 + 1)) t193 a0_1 t194 l0_3 t197) else (none)) = some (r1, r2, r3, r4, r5) := H
                have A25 := Aside0.mk A250
                clear A250
                by_cases c26 : x3_1.length < 2932031007402
                · rw [if_pos c26] at H
                  have LMc26 := Aside0.mk c26
                  clear c26
                  obtain ⟨y204, hy204⟩ : ∃ y_ : List (S98), y_ = (x3_1 ++ [(⟨t202, (rd_T98 l0_3 x4_1).f1, t203, (rd_T98 l0_3 x4_1).f3⟩ : S98)]) := ⟨_, rfl⟩
                  replace H : (cachepotlaw21_short.l0 kj14 y204 (wrap64 (x4_1 + 1)) t193 a0_1 t194 l0_3 t197) = some (r1, r2, r3, r4, r5) := by first | (rw [hy204]; with_reducible exact H) | (have H2_ := (Option.bind_some _ _).symm.trans H; rw [hy204]; with_reducible exact H2_) | (have H2_ := (Option.bind_some _ _).symm.trans H; with_reducible exact H2_) | with_reducible exact H | (rw [hy204]; exact H) | exact H
                  have Ny204 := Aside0.mk hy204
                  clear hy204
                  have H' := Aside0.mk H
                  clear H
                  have hnb27 := NB191_192.out
                  have hnc27 := NB192_191.out
                  have hcz28_0 : wc.cell? ⟨gb191, 0, none⟩ = some (.int .i64 t193) := (blk_cell BK191.out 0).trans rfl
                  have hcz28_1 : wc.cell? ⟨gb191, 1, none⟩ = some (.int .u32 a0_1) := (blk_cell BK191.out 1).trans rfl
                  have hcz28_2 : wc.cell? ⟨gb191, 2, none⟩ = some (.slice Ao10 t194.length co10) := (blk_cell BK191.out 2).trans rfl
                  have hcz28_3 : wc.cell? ⟨gb191, 3, none⟩ = some (.slice A0_3 l0_3.length c0_3) := (blk_cell BK191.out 3).trans rfl
                  have hcz28_4 : wc.cell? ⟨gb191, 4, none⟩ = some (.slice Ao13 t197.length co13) := (blk_cell BK191.out 4).trans rfl
                  have hfz28_0 := blk_frozen BK191.out 0
                  have hfz28_1 := blk_frozen BK191.out 1
                  have hfz28_2 := blk_frozen BK191.out 2
                  have hfz28_3 := blk_frozen BK191.out 3
                  have hfz28_4 := blk_frozen BK191.out 4
                  have p200 : 0 ≤ (x4_1 : Int) := of_decide_eq_true (by first | (with_reducible assumption) | assumption)
                  have q200 : x4_1 < (l0_3.length : Int) := of_decide_eq_true (by first | (with_reducible assumption) | assumption)
                  obtain ⟨ad200, e200, hx200_0, hx200_1, hx200_2, hx200_3⟩ := at_T98 HR0_3.out x4_1 p200 q200
                  cases e200
                  replace hx200_0 := (HB.out.cell (World.block_lt_of_cell? w _ hx200_0)).trans hx200_0
                  replace hx200_1 := (HB.out.cell (World.block_lt_of_cell? w _ hx200_1)).trans hx200_1
                  replace hx200_2 := (HB.out.cell (World.block_lt_of_cell? w _ hx200_2)).trans hx200_2
                  replace hx200_3 := (HB.out.cell (World.block_lt_of_cell? w _ hx200_3)).trans hx200_3
                  replace p200 := eq_true p200
                  replace q200 := eq_true q200
                  try go_wp2_with (first | ((with_reducible refine gate_dst (N := 5) rfl ?_); refine box_event ?hg (N := 5) ?hd (cs := #[.string (⟨#[]⟩ : ByteArray), .bool false, .string (⟨#[]⟩ : ByteArray), .int .u32 0]) (t := 98) ?hr ?_; (case hd => rfl); (case hg => rfl); (case hr => first | (go_simp; done) | (go_simp; rfl)); intro gb201 hg w29 hbox hb; have n0_ := Aside0.mk (Kd.R_below (Kd.R_elderB (by (with_reducible repeat (first | apply Kd.R_alloc | apply Kd.R_drewN | apply Kd.R_drew)); exact HO_3.out) gb201 (Nat.le_of_eq hg.symm)) hb); have n1_ := Aside0.mk (Kd.R_below (by (with_reducible repeat (first | apply Kd.R_alloc | apply Kd.R_drewN | apply Kd.R_drew)); exact HO_192002.out) hb); have n2_ := Aside0.mk (Kd.R_below (by (with_reducible repeat (first | apply Kd.R_alloc | apply Kd.R_drewN | apply Kd.R_drew)); exact HO_192004.out) hb); have n3_ := Aside0.mk (blk_below (g := gb191) (o := .cells #[.int .i64 t193, .int .u32 a0_1, .slice Ao10 t194.length co10, .slice (some ad200) l0_3.length c0_3, .slice Ao13 t197.length co13] 43 (0, 0)) (by (with_reducible repeat (first | refine blk_drewN ?_ _ | refine blk_drew ?_ | refine blk_alloc ?_ _)); exact BK191.out) hb); have n4_ := Aside0.mk (blk_below (g := gb192) (o := .cells #[.int .i64 0, .int .u32 0, .slice none 0 0, .slice none 0 0, .slice none 0 0] 43 (0, 0)) (by (with_reducible repeat (first | refine blk_drewN ?_ _ | refine blk_drew ?_ | refine blk_alloc ?_ _)); exact BK192.out) hb); have n5_ := Aside0.mk (below_step (by repeat (first | (with_reducible first | exact HB.out | apply below_alloc | apply pw_below_drewN | apply below_drew1 | refine below_set ?_ GE191.out | refine below_set ?_ GE192.out) | exact HB.out)) hb); have n6_ := Aside0.mk (hbox); have n7_ := Aside0.mk ((by rw [hg]; exact (below_size (by repeat (first | (with_reducible first | exact HB.out | apply below_alloc | apply pw_below_drewN | apply below_drew1 | refine below_set ?_ GE191.out | refine below_set ?_ GE192.out) | exact HB.out))) : w.heap.size ≤ gb201)); have n8_ := Aside0.mk ((by rw [hg]; exact (below_size (by repeat (first | (with_reducible first | exact HB.out | apply below_alloc | apply pw_below_drewN | apply below_drew1 | refine below_set ?_ GE191.out | refine below_set ?_ GE192.out) | exact HB.out))) : w.heap.size ≤ gb201)); have n9_ := Aside0.mk ((by rw [hg]; exact Nat.ne_of_lt (blk_lt (g := gb191) (o := .cells #[.int .i64 t193, .int .u32 a0_1, .slice Ao10 t194.length co10, .slice (some ad200) l0_3.length c0_3, .slice Ao13 t197.length co13] 43 (0, 0)) (by (with_reducible repeat (first | refine blk_drewN ?_ _ | refine blk_drew ?_ | refine blk_alloc ?_ _)); exact BK191.out)) : gb191 ≠ gb201)); have n10_ := Aside0.mk ((by rw [hg]; exact Nat.ne_of_gt (blk_lt (g := gb191) (o := .cells #[.int .i64 t193, .int .u32 a0_1, .slice Ao10 t194.length co10, .slice (some ad200) l0_3.length c0_3, .slice Ao13 t197.length co13] 43 (0, 0)) (by (with_reducible repeat (first | refine blk_drewN ?_ _ | refine blk_drew ?_ | refine blk_alloc ?_ _)); exact BK191.out)) : gb201 ≠ gb191)); have n11_ := Aside0.mk ((by rw [hg]; exact Nat.ne_of_lt (blk_lt (g := gb192) (o := .cells #[.int .i64 0, .int .u32 0, .slice none 0 0, .slice none 0 0, .slice none 0 0] 43 (0, 0)) (by (with_reducible repeat (first | refine blk_drewN ?_ _ | refine blk_drew ?_ | refine blk_alloc ?_ _)); exact BK192.out)) : gb192 ≠ gb201)); have n12_ := Aside0.mk ((by rw [hg]; exact Nat.ne_of_gt (blk_lt (g := gb192) (o := .cells #[.int .i64 0, .int .u32 0, .slice none 0 0, .slice none 0 0, .slice none 0 0] 43 (0, 0)) (by (with_reducible repeat (first | refine blk_drewN ?_ _ | refine blk_drew ?_ | refine blk_alloc ?_ _)); exact BK192.out)) : gb201 ≠ gb192)); clear HO_3; clear HO_192002; clear HO_192004; clear BK191; clear BK192; clear HB; have HO_3 := n0_; have HO_192002 := n1_; have HO_192004 := n2_; have BK191 := n3_; have BK192 := n4_; have HB := n5_; have BK201 := n6_; have GW201 := n7_; have GE201 := n8_; have NB191_201 := n9_; have NB201_191 := n10_; have NB192_201 := n11_; have NB201_192 := n12_; clear n0_ n1_ n2_ n3_ n4_ n5_ n6_ n7_ n8_ n9_ n10_ n11_ n12_; clear hb hbox hg; have hnb30 := NB201_191.out; have hnc30 := NB191_201.out; have hnb31 := NB201_192.out; have hnc31 := NB192_201.out; have hcz32_0 : w29.cell? ⟨gb201, 0, none⟩ = some (.string (⟨#[]⟩ : ByteArray)) := (blk_cell BK201.out 0).trans rfl; have hcz32_1 : w29.cell? ⟨gb201, 1, none⟩ = some (.bool false) := (blk_cell BK201.out 1).trans rfl; have hcz32_2 : w29.cell? ⟨gb201, 2, none⟩ = some (.string (⟨#[]⟩ : ByteArray)) := (blk_cell BK201.out 2).trans rfl; have hcz32_3 : w29.cell? ⟨gb201, 3, none⟩ = some (.int .u32 0) := (blk_cell BK201.out 3).trans rfl; have hfz32_0 := blk_frozen BK201.out 0; have hfz32_1 := blk_frozen BK201.out 1; have hfz32_2 := blk_frozen BK201.out 2; have hfz32_3 := blk_frozen BK201.out 3))
                  have n0_ : Aside0 (Kd.R k98 98 ((((w29.setCell ⟨gb201, 0, none⟩ (.string ((rd_T98 l0_3 x4_1).f0))).setCell ⟨gb201, 1, none⟩ (.bool ((rd_T98 l0_3 x4_1).f1))).setCell ⟨gb201, 2, none⟩ (.string ((rd_T98 l0_3 x4_1).f2))).setCell ⟨gb201, 3, none⟩ (.int .u32 ((rd_T98 l0_3 x4_1).f3))) w.heap.size (fun k_ => k_ ≠ gb201) u3 x3_1) := ⟨by (with_reducible repeat (first | apply Kd.R_alloc | apply Kd.R_drewN | apply Kd.R_drew)); exact Kd.R_mono (Kd.R_far (p := ⟨gb201, 3, none⟩) (Kd.R_far (p := ⟨gb201, 2, none⟩) (Kd.R_far (p := ⟨gb201, 1, none⟩) (Kd.R_far (p := ⟨gb201, 0, none⟩) (Kd.R_mono HO_3.out (fun k_ hk => (⟨hk, hk.2⟩ : _ ∧ k_ ≠ gb201))) (fun _ hk => hk.2) (.string ((rd_T98 l0_3 x4_1).f0))) (fun _ hk => hk.2) (.bool ((rd_T98 l0_3 x4_1).f1))) (fun _ hk => hk.2) (.string ((rd_T98 l0_3 x4_1).f2))) (fun _ hk => hk.2) (.int .u32 ((rd_T98 l0_3 x4_1).f3))) (fun _ hk => hk.1.2)⟩
                  have n1_ : Aside0 (Kd.R k101 101 ((((w29.setCell ⟨gb201, 0, none⟩ (.string ((rd_T98 l0_3 x4_1).f0))).setCell ⟨gb201, 1, none⟩ (.bool ((rd_T98 l0_3 x4_1).f1))).setCell ⟨gb201, 2, none⟩ (.string ((rd_T98 l0_3 x4_1).f2))).setCell ⟨gb201, 3, none⟩ (.int .u32 ((rd_T98 l0_3 x4_1).f3))) w.heap.size (fun _ => True) (.slice Ao10 t194.length co10) t194) := ⟨by (with_reducible repeat (first | apply Kd.R_alloc | apply Kd.R_drewN | apply Kd.R_drew)); exact Kd.R_mono (Kd.R_far (p := ⟨gb201, 3, none⟩) (Kd.R_far (p := ⟨gb201, 2, none⟩) (Kd.R_far (p := ⟨gb201, 1, none⟩) (Kd.R_far (p := ⟨gb201, 0, none⟩) (Kd.R_types HO_192002.out BK201.out (by decide)) (fun _ hk => hk.2) (.string ((rd_T98 l0_3 x4_1).f0))) (fun _ hk => hk.2) (.bool ((rd_T98 l0_3 x4_1).f1))) (fun _ hk => hk.2) (.string ((rd_T98 l0_3 x4_1).f2))) (fun _ hk => hk.2) (.int .u32 ((rd_T98 l0_3 x4_1).f3))) (fun _ hk => trivial)⟩
                  have n2_ : Aside0 (Kd.R Kd.string 9 ((((w29.setCell ⟨gb201, 0, none⟩ (.string ((rd_T98 l0_3 x4_1).f0))).setCell ⟨gb201, 1, none⟩ (.bool ((rd_T98 l0_3 x4_1).f1))).setCell ⟨gb201, 2, none⟩ (.string ((rd_T98 l0_3 x4_1).f2))).setCell ⟨gb201, 3, none⟩ (.int .u32 ((rd_T98 l0_3 x4_1).f3))) w.heap.size (fun _ => True) (.slice Ao13 t197.length co13) t197) := ⟨by (with_reducible repeat (first | apply Kd.R_alloc | apply Kd.R_drewN | apply Kd.R_drew)); exact Kd.R_mono (Kd.R_far (p := ⟨gb201, 3, none⟩) (Kd.R_far (p := ⟨gb201, 2, none⟩) (Kd.R_far (p := ⟨gb201, 1, none⟩) (Kd.R_far (p := ⟨gb201, 0, none⟩) (Kd.R_types HO_192004.out BK201.out (by decide)) (fun _ hk => hk.2) (.string ((rd_T98 l0_3 x4_1).f0))) (fun _ hk => hk.2) (.bool ((rd_T98 l0_3 x4_1).f1))) (fun _ hk => hk.2) (.string ((rd_T98 l0_3 x4_1).f2))) (fun _ hk => hk.2) (.int .u32 ((rd_T98 l0_3 x4_1).f3))) (fun _ hk => trivial)⟩
                  have n3_ : Aside0 (((((w29.setCell ⟨gb201, 0, none⟩ (.string ((rd_T98 l0_3 x4_1).f0))).setCell ⟨gb201, 1, none⟩ (.bool ((rd_T98 l0_3 x4_1).f1))).setCell ⟨gb201, 2, none⟩ (.string ((rd_T98 l0_3 x4_1).f2))).setCell ⟨gb201, 3, none⟩ (.int .u32 ((rd_T98 l0_3 x4_1).f3))).heap[gb191]? = some (.cells #[.int .i64 t193, .int .u32 a0_1, .slice Ao10 t194.length co10, .slice (some ad200) l0_3.length c0_3, .slice Ao13 t197.length co13] 43 (0, 0))) := ⟨by (with_reducible repeat (first | refine blk_drewN ?_ _ | refine blk_drew ?_ | refine blk_alloc ?_ _)); refine blk_far ?_ NB191_201.out _; (with_reducible repeat (first | refine blk_drewN ?_ _ | refine blk_drew ?_ | refine blk_alloc ?_ _)); refine blk_far ?_ NB191_201.out _; (with_reducible repeat (first | refine blk_drewN ?_ _ | refine blk_drew ?_ | refine blk_alloc ?_ _)); refine blk_far ?_ NB191_201.out _; (with_reducible repeat (first | refine blk_drewN ?_ _ | refine blk_drew ?_ | refine blk_alloc ?_ _)); refine blk_far ?_ NB191_201.out _; (with_reducible repeat (first | refine blk_drewN ?_ _ | refine blk_drew ?_ | refine blk_alloc ?_ _)); exact BK191.out⟩
                  have n4_ : Aside0 (((((w29.setCell ⟨gb201, 0, none⟩ (.string ((rd_T98 l0_3 x4_1).f0))).setCell ⟨gb201, 1, none⟩ (.bool ((rd_T98 l0_3 x4_1).f1))).setCell ⟨gb201, 2, none⟩ (.string ((rd_T98 l0_3 x4_1).f2))).setCell ⟨gb201, 3, none⟩ (.int .u32 ((rd_T98 l0_3 x4_1).f3))).heap[gb192]? = some (.cells #[.int .i64 0, .int .u32 0, .slice none 0 0, .slice none 0 0, .slice none 0 0] 43 (0, 0))) := ⟨by (with_reducible repeat (first | refine blk_drewN ?_ _ | refine blk_drew ?_ | refine blk_alloc ?_ _)); refine blk_far ?_ NB192_201.out _; (with_reducible repeat (first | refine blk_drewN ?_ _ | refine blk_drew ?_ | refine blk_alloc ?_ _)); refine blk_far ?_ NB192_201.out _; (with_reducible repeat (first | refine blk_drewN ?_ _ | refine blk_drew ?_ | refine blk_alloc ?_ _)); refine blk_far ?_ NB192_201.out _; (with_reducible repeat (first | refine blk_drewN ?_ _ | refine blk_drew ?_ | refine blk_alloc ?_ _)); refine blk_far ?_ NB192_201.out _; (with_reducible repeat (first | refine blk_drewN ?_ _ | refine blk_drew ?_ | refine blk_alloc ?_ _)); exact BK192.out⟩
                  have n5_ : Aside0 (((((w29.setCell ⟨gb201, 0, none⟩ (.string ((rd_T98 l0_3 x4_1).f0))).setCell ⟨gb201, 1, none⟩ (.bool ((rd_T98 l0_3 x4_1).f1))).setCell ⟨gb201, 2, none⟩ (.string ((rd_T98 l0_3 x4_1).f2))).setCell ⟨gb201, 3, none⟩ (.int .u32 ((rd_T98 l0_3 x4_1).f3))).heap[gb201]? = some (.cells #[.string ((rd_T98 l0_3 x4_1).f0), .bool ((rd_T98 l0_3 x4_1).f1), .string ((rd_T98 l0_3 x4_1).f2), .int .u32 ((rd_T98 l0_3 x4_1).f3)] 98 (0, 0))) := ⟨by (with_reducible repeat (first | refine blk_drewN ?_ _ | refine blk_drew ?_ | refine blk_alloc ?_ _)); refine blk_put (cs := #[.string ((rd_T98 l0_3 x4_1).f0), .bool ((rd_T98 l0_3 x4_1).f1), .string ((rd_T98 l0_3 x4_1).f2), .int .u32 0]) ?_ 3 _ rfl; (with_reducible repeat (first | refine blk_drewN ?_ _ | refine blk_drew ?_ | refine blk_alloc ?_ _)); refine blk_put (cs := #[.string ((rd_T98 l0_3 x4_1).f0), .bool ((rd_T98 l0_3 x4_1).f1), .string (⟨#[]⟩ : ByteArray), .int .u32 0]) ?_ 2 _ rfl; (with_reducible repeat (first | refine blk_drewN ?_ _ | refine blk_drew ?_ | refine blk_alloc ?_ _)); refine blk_put (cs := #[.string ((rd_T98 l0_3 x4_1).f0), .bool false, .string (⟨#[]⟩ : ByteArray), .int .u32 0]) ?_ 1 _ rfl; (with_reducible repeat (first | refine blk_drewN ?_ _ | refine blk_drew ?_ | refine blk_alloc ?_ _)); refine blk_put (cs := #[.string (⟨#[]⟩ : ByteArray), .bool false, .string (⟨#[]⟩ : ByteArray), .int .u32 0]) ?_ 0 _ rfl; (with_reducible repeat (first | refine blk_drewN ?_ _ | refine blk_drew ?_ | refine blk_alloc ?_ _)); exact BK201.out⟩
                  have n6_ : Aside0 (Below w.heap.size w ((((w29.setCell ⟨gb201, 0, none⟩ (.string ((rd_T98 l0_3 x4_1).f0))).setCell ⟨gb201, 1, none⟩ (.bool ((rd_T98 l0_3 x4_1).f1))).setCell ⟨gb201, 2, none⟩ (.string ((rd_T98 l0_3 x4_1).f2))).setCell ⟨gb201, 3, none⟩ (.int .u32 ((rd_T98 l0_3 x4_1).f3)))) := ⟨by repeat (first | (with_reducible first | exact HB.out | apply below_alloc | apply pw_below_drewN | apply below_drew1 | refine below_set ?_ GE191.out | refine below_set ?_ GE192.out | refine below_set ?_ GE201.out) | exact HB.out)⟩
                  (try clear HO_3)
                  (try clear HO_192002)
                  (try clear HO_192004)
                  (try clear BK191)
                  (try clear BK192)
                  (try clear BK201)
                  (try clear HB)
                  generalize ((((w29.setCell ⟨gb201, 0, none⟩ (.string ((rd_T98 l0_3 x4_1).f0))).setCell ⟨gb201, 1, none⟩ (.bool ((rd_T98 l0_3 x4_1).f1))).setCell ⟨gb201, 2, none⟩ (.string ((rd_T98 l0_3 x4_1).f2))).setCell ⟨gb201, 3, none⟩ (.int .u32 ((rd_T98 l0_3 x4_1).f3))) = w33 at n0_ n1_ n2_ n3_ n4_ n5_ n6_ ⊢
                  have HO_3 := n0_
                  have HO_192002 := n1_
                  have HO_192004 := n2_
                  have BK191 := n3_
                  have BK192 := n4_
                  have BK201 := n5_
                  have HB := n6_
                  clear n0_ n1_ n2_ n3_ n4_ n5_ n6_
                  have n0_ := Aside0.mk (Kd.R_drew HO_3.out)
                  have n1_ := Aside0.mk (Kd.R_drew HO_192002.out)
                  have n2_ := Aside0.mk (Kd.R_drew HO_192004.out)
                  have n3_ := Aside0.mk (blk_drew BK191.out)
                  have n4_ := Aside0.mk (blk_drew BK192.out)
                  have n5_ := Aside0.mk (blk_drew BK201.out)
                  have n6_ := Aside0.mk (below_drew1 HB.out)
                  clear HO_3
                  clear HO_192002
                  clear HO_192004
                  clear BK191
                  clear BK192
                  clear BK201
                  clear HB
                  have HO_3 := n0_
                  have HO_192002 := n1_
                  have HO_192004 := n2_
                  have BK191 := n3_
                  have BK192 := n4_
                  have BK201 := n5_
                  have HB := n6_
                  clear n0_ n1_ n2_ n3_ n4_ n5_ n6_
                  refine start_ (n := 10) (S := fun w' => w'.cell? ⟨gb201, 0, none⟩ = some (.string ((rd_T98 l0_3 x4_1).f0)) ∧ w'.cell? ⟨gb201, 1, none⟩ = some (.bool ((rd_T98 l0_3 x4_1).f1)) ∧ w'.cell? ⟨gb201, 2, none⟩ = some (.string ((rd_T98 l0_3 x4_1).f2)) ∧ w'.cell? ⟨gb201, 3, none⟩ = some (.int .u32 ((rd_T98 l0_3 x4_1).f3))) (ds := [7, 9]) #[false, false, false, false, false, false, false, false, false, false] (by kernel_rfl) rfl rfl ⟨(blk_cell BK201.out 0).trans rfl, (blk_cell BK201.out 1).trans rfl, (blk_cell BK201.out 2).trans rfl, (blk_cell BK201.out 3).trans rfl⟩ (fun hHeld => ?_); refine with_tabW cachepotlaw21_short.tab9 cachepotlaw21_short.bits9 (fun HT_ HW_ => ?_)
                  generalize w33.drew = w34 at HO_3 HO_192002 HO_192004 BK191 BK192 BK201 HB hHeld ⊢
                  refine pure_ (i := 0) (N := some 34) (v := ?_) (a' := ?_) #[true, false, false, false, false, false, false, false, false, false] rfl rfl (any_of HT_.out (by kernel_rfl)) (fun _ _ _ h => h) (Or.inl ⟨by rfl, ?_⟩) ?_ ?_
                  rotate_left
                  · intro w'
                    go_simp
                    with_reducible rfl
                  rotate_left
                  · simp only [Act.put, List.setIfInBounds_toArray, List.set_cons_zero, List.set_cons_succ, i64_w, i32_w]
                    rfl
                  refine pure_ (i := 3) (N := some 37) (v := ?_) (a' := ?_) #[true, false, false, true, false, false, false, false, false, false] rfl rfl (any_of HT_.out (by kernel_rfl)) (fun _ _ _ h => h) (Or.inl ⟨by rfl, ?_⟩) ?_ ?_
                  rotate_left
                  · intro w'
                    go_simp
                    with_reducible rfl
                  rotate_left
                  · simp only [Act.put, List.setIfInBounds_toArray, List.set_cons_zero, List.set_cons_succ, i64_w, i32_w]
                    rfl
                  refine take_ (i := 1) (N := some 35) (v := ?_) (a' := ?_) #[true, true, false, true, false, false, false, false, false, false] rfl rfl (take_ofW HT_.out HW_.out (by kernel_rfl)) (fun _ _ _ h => h) (Or.inl ⟨by rfl, ?_⟩) hHeld ?_ ?_
                  rotate_left
                  · rintro w' ⟨s0, s1, s2, s3⟩
                    go_simp
                    with_reducible rfl
                  rotate_left
                  · simp only [Act.put, List.setIfInBounds_toArray, List.set_cons_zero, List.set_cons_succ, i64_w, i32_w]
                    rfl
                  refine take_ (i := 4) (N := some 38) (v := ?_) (a' := ?_) #[true, true, false, true, true, false, false, false, false, false] rfl rfl (take_ofW HT_.out HW_.out (by kernel_rfl)) (fun _ _ _ h => h) (Or.inl ⟨by rfl, ?_⟩) hHeld ?_ ?_
                  rotate_left
                  · rintro w' ⟨s0, s1, s2, s3⟩
                    go_simp
                    with_reducible rfl
                  rotate_left
                  · simp only [Act.put, List.setIfInBounds_toArray, List.set_cons_zero, List.set_cons_succ, i64_w, i32_w]
                    rfl
                  refine one_ (i := 2) (N := some 36) #[true, true, true, true, true, false, false, false, false, false] rfl rfl (one_of HT_.out (by kernel_rfl)) (by decide) (fun K hK => ?_)
                  refine goes_ Tryd.func27 (by kernel_rfl) rfl #[.string ((rd_T98 l0_3 x4_1).f0), .int .i64 40] (by rfl) rfl rfl (by (try simp only [List.map_toArray, List.map_cons, List.map_nil]); first | done | rfl | (simp only [List.length_drop, List.length_take]; rfl)) ?_
                  with_reducible refine (cachepotbook_Short.calls ((rd_T98 l0_3 x4_1).f0) 40 t202 _ A24.out).mono ?_
                  rintro e w35 ⟨rfl, hb⟩
                  refine ⟨_, rfl, ?_⟩
                  have n0_ := Aside0.mk (Kd.R_below (by (with_reducible repeat (first | apply Kd.R_alloc | apply Kd.R_drewN | apply Kd.R_drew)); exact HO_3.out) hb)
                  have n1_ := Aside0.mk (Kd.R_below (by (with_reducible repeat (first | apply Kd.R_alloc | apply Kd.R_drewN | apply Kd.R_drew)); exact HO_192002.out) hb)
                  have n2_ := Aside0.mk (Kd.R_below (by (with_reducible repeat (first | apply Kd.R_alloc | apply Kd.R_drewN | apply Kd.R_drew)); exact HO_192004.out) hb)
                  have n3_ := Aside0.mk (blk_below (g := gb191) (o := .cells #[.int .i64 t193, .int .u32 a0_1, .slice Ao10 t194.length co10, .slice (some ad200) l0_3.length c0_3, .slice Ao13 t197.length co13] 43 (0, 0)) (by (with_reducible repeat (first | refine blk_drewN ?_ _ | refine blk_drew ?_ | refine blk_alloc ?_ _)); exact BK191.out) hb)
                  have n4_ := Aside0.mk (blk_below (g := gb192) (o := .cells #[.int .i64 0, .int .u32 0, .slice none 0 0, .slice none 0 0, .slice none 0 0] 43 (0, 0)) (by (with_reducible repeat (first | refine blk_drewN ?_ _ | refine blk_drew ?_ | refine blk_alloc ?_ _)); exact BK192.out) hb)
                  have n5_ := Aside0.mk (blk_below (g := gb201) (o := .cells #[.string ((rd_T98 l0_3 x4_1).f0), .bool ((rd_T98 l0_3 x4_1).f1), .string ((rd_T98 l0_3 x4_1).f2), .int .u32 ((rd_T98 l0_3 x4_1).f3)] 98 (0, 0)) (by (with_reducible repeat (first | refine blk_drewN ?_ _ | refine blk_drew ?_ | refine blk_alloc ?_ _)); exact BK201.out) hb)
                  have n6_ := Aside0.mk (below_step (by repeat (first | (with_reducible first | exact HB.out | apply below_alloc | apply pw_below_drewN | apply below_drew1 | refine below_set ?_ GE191.out | refine below_set ?_ GE192.out | refine below_set ?_ GE201.out) | exact HB.out)) hb)
                  clear HO_3
                  clear HO_192002
                  clear HO_192004
                  clear BK191
                  clear BK192
                  clear BK201
                  clear HB
                  have HO_3 := n0_
                  have HO_192002 := n1_
                  have HO_192004 := n2_
                  have BK191 := n3_
                  have BK192 := n4_
                  have BK201 := n5_
                  have HB := n6_
                  clear n0_ n1_ n2_ n3_ n4_ n5_ n6_
                  (try clear hb)
                  (try clear hb2)
                  (try clear hk)
                  (try clear hi)
                  refine hK.out _ _ ⟨(blk_cell BK201.out 0).trans rfl, (blk_cell BK201.out 1).trans rfl, (blk_cell BK201.out 2).trans rfl, (blk_cell BK201.out 3).trans rfl⟩ (fun hHeld => ?_)
                  clear hK K
                  refine norm_ (a' := ?_) ?_ ?_
                  rotate_left
                  · show Act.put _ (some 36) _ = _
                    simp only [Act.put, List.setIfInBounds_toArray, List.set_cons_zero, List.set_cons_succ, i64_w, i32_w]
                    rfl
                  refine pure_ (i := 6) (N := some 40) (v := ?_) (a' := ?_) #[true, true, true, true, true, false, true, false, false, false] rfl rfl (any_of HT_.out (by kernel_rfl)) (fun _ _ _ h => h) (Or.inl ⟨by rfl, ?_⟩) ?_ ?_
                  rotate_left
                  · intro w'
                    go_simp
                    with_reducible rfl
                  rotate_left
                  · simp only [Act.put, List.setIfInBounds_toArray, List.set_cons_zero, List.set_cons_succ, i64_w, i32_w]
                    rfl
                  refine one_ (i := 5) (N := some 39) #[true, true, true, true, true, true, true, false, false, false] rfl rfl (one_of HT_.out (by kernel_rfl)) (by decide) (fun K hK => ?_)
                  refine goes_ Tryd.func27 (by kernel_rfl) rfl #[.string ((rd_T98 l0_3 x4_1).f2), .int .i64 40] (by rfl) rfl rfl (by (try simp only [List.map_toArray, List.map_cons, List.map_nil]); first | done | rfl | (simp only [List.length_drop, List.length_take]; rfl)) ?_
                  with_reducible refine (cachepotbook_Short.calls ((rd_T98 l0_3 x4_1).f2) 40 t203 _ A25.out).mono ?_
                  rintro e w36 ⟨rfl, hb⟩
                  refine ⟨_, rfl, ?_⟩
                  have n0_ := Aside0.mk (Kd.R_below (by (with_reducible repeat (first | apply Kd.R_alloc | apply Kd.R_drewN | apply Kd.R_drew)); exact HO_3.out) hb)
                  have n1_ := Aside0.mk (Kd.R_below (by (with_reducible repeat (first | apply Kd.R_alloc | apply Kd.R_drewN | apply Kd.R_drew)); exact HO_192002.out) hb)
                  have n2_ := Aside0.mk (Kd.R_below (by (with_reducible repeat (first | apply Kd.R_alloc | apply Kd.R_drewN | apply Kd.R_drew)); exact HO_192004.out) hb)
                  have n3_ := Aside0.mk (blk_below (g := gb191) (o := .cells #[.int .i64 t193, .int .u32 a0_1, .slice Ao10 t194.length co10, .slice (some ad200) l0_3.length c0_3, .slice Ao13 t197.length co13] 43 (0, 0)) (by (with_reducible repeat (first | refine blk_drewN ?_ _ | refine blk_drew ?_ | refine blk_alloc ?_ _)); exact BK191.out) hb)
                  have n4_ := Aside0.mk (blk_below (g := gb192) (o := .cells #[.int .i64 0, .int .u32 0, .slice none 0 0, .slice none 0 0, .slice none 0 0] 43 (0, 0)) (by (with_reducible repeat (first | refine blk_drewN ?_ _ | refine blk_drew ?_ | refine blk_alloc ?_ _)); exact BK192.out) hb)
                  have n5_ := Aside0.mk (blk_below (g := gb201) (o := .cells #[.string ((rd_T98 l0_3 x4_1).f0), .bool ((rd_T98 l0_3 x4_1).f1), .string ((rd_T98 l0_3 x4_1).f2), .int .u32 ((rd_T98 l0_3 x4_1).f3)] 98 (0, 0)) (by (with_reducible repeat (first | refine blk_drewN ?_ _ | refine blk_drew ?_ | refine blk_alloc ?_ _)); exact BK201.out) hb)
                  have n6_ := Aside0.mk (below_step (by repeat (first | (with_reducible first | exact HB.out | apply below_alloc | apply pw_below_drewN | apply below_drew1 | refine below_set ?_ GE191.out | refine below_set ?_ GE192.out | refine below_set ?_ GE201.out) | exact HB.out)) hb)
                  clear HO_3
                  clear HO_192002
                  clear HO_192004
                  clear BK191
                  clear BK192
                  clear BK201
                  clear HB
                  have HO_3 := n0_
                  have HO_192002 := n1_
                  have HO_192004 := n2_
                  have BK191 := n3_
                  have BK192 := n4_
                  have BK201 := n5_
                  have HB := n6_
                  clear n0_ n1_ n2_ n3_ n4_ n5_ n6_
                  (try clear hb)
                  (try clear hb2)
                  (try clear hk)
                  (try clear hi)
                  refine hK.out _ _ ⟨(blk_cell BK201.out 0).trans rfl, (blk_cell BK201.out 1).trans rfl, (blk_cell BK201.out 2).trans rfl, (blk_cell BK201.out 3).trans rfl⟩ (fun hHeld => ?_)
                  clear hK K
                  refine norm_ (a' := ?_) ?_ ?_
                  rotate_left
                  · show Act.put _ (some 39) _ = _
                    simp only [Act.put, List.setIfInBounds_toArray, List.set_cons_zero, List.set_cons_succ, i64_w, i32_w]
                    rfl
                  refine last_ (i := 7) (N := none) #[true, true, true, true, true, true, true, true, false, false] rfl rfl (one_of HT_.out (by kernel_rfl)) (by decide) (fun K hK => ?_)
                  have hs37 : w36.cell? ⟨gb201, 0, none⟩ = some (.string ((rd_T98 l0_3 x4_1).f0)) := (blk_cell BK201.out 0).trans rfl
                  have hfs37 := blk_frozen BK201.out 0
                  have hns37_0 := NB191_201.out
                  have hns37_1 := NB192_201.out
                  have hms37_0 := NB201_191.out
                  have hms37_1 := NB201_192.out
                  refine skip_ (w1 := ?_) (by rfl) rfl ?_ ?_
                  rotate_left
                  · go_simp
                    rfl
                  refine hK.out _ _ ?_
                  clear hK K
                  refine pure_ (i := 8) (N := some 41) (v := ?_) (a' := ?_) #[true, true, true, true, true, true, true, true, true, false] rfl rfl (any_of HT_.out (by kernel_rfl)) (fun _ _ _ h => h) (Or.inl ⟨by rfl, ?_⟩) ?_ ?_
                  rotate_left
                  · intro w'
                    go_simp
                    with_reducible rfl
                  rotate_left
                  · simp only [Act.put, List.setIfInBounds_toArray, List.set_cons_zero, List.set_cons_succ, i64_w, i32_w]
                    rfl
                  refine last_ (i := 9) (N := none) #[true, true, true, true, true, true, true, true, true, true] rfl rfl (one_of HT_.out (by kernel_rfl)) (by decide) (fun K hK => ?_)
                  have hs38 : w36.cell? ⟨gb201, 2, none⟩ = some (.string ((rd_T98 l0_3 x4_1).f2)) := (blk_cell BK201.out 2).trans rfl
                  have hfs38 := blk_frozen BK201.out 2
                  have hns38_0 := NB191_201.out
                  have hns38_1 := NB192_201.out
                  have hms38_0 := NB201_191.out
                  have hms38_1 := NB201_192.out
                  refine skip_ (w1 := ?_) (by rfl) rfl ?_ ?_
                  rotate_left
                  · go_simp
                    rfl
                  refine hK.out _ _ ?_
                  clear hK K
                  refine done_ (done_of HT_.out (by kernel_rfl)) ?_
                  have hcz39_0 : w36.cell? ⟨gb201, 0, none⟩ = some (.string ((rd_T98 l0_3 x4_1).f0)) := (blk_cell BK201.out 0).trans rfl
                  have hcz39_1 : w36.cell? ⟨gb201, 1, none⟩ = some (.bool ((rd_T98 l0_3 x4_1).f1)) := (blk_cell BK201.out 1).trans rfl
                  have hcz39_2 : w36.cell? ⟨gb201, 2, none⟩ = some (.string ((rd_T98 l0_3 x4_1).f2)) := (blk_cell BK201.out 2).trans rfl
                  have hcz39_3 : w36.cell? ⟨gb201, 3, none⟩ = some (.int .u32 ((rd_T98 l0_3 x4_1).f3)) := (blk_cell BK201.out 3).trans rfl
                  have hfz39_0 := blk_frozen BK201.out 0
                  have hfz39_1 := blk_frozen BK201.out 1
                  have hfz39_2 := blk_frozen BK201.out 2
                  have hfz39_3 := blk_frozen BK201.out 3
                  try go_wp2_with (first | ((with_reducible refine gate_builtin (b := .append) (xs := #[.tmp 42, .tmp 44]) rfl ?_); at_builtin; refine Kd.R_append k98 (w0 := w) w.heap.size rfl (.tmp 42) (.tmp 44) 41 98 (.agg #[(.string ⟨#[]⟩), (.bool false), (.string ⟨#[]⟩), (.int .u32 0)]) 48 rfl Tryd.underlying41 info98 rfl (by decide) (by omega) u3 x3_1 (⟨t202, (rd_T98 l0_3 x4_1).f1, t203, (rd_T98 l0_3 x4_1).f3⟩ : S98) [.string t202, .bool ((rd_T98 l0_3 x4_1).f1), .string t203, .int .u32 ((rd_T98 l0_3 x4_1).f3)] (fun k_ => k_ ≠ gb201) (fun _ => False) rfl (by first | (go_simp; done) | (go_simp; rfl)) ?aP (fun _ hk => hk.elim) ?aF ?aO ?aB ?aS ?aL ?_; (case aP => exact k98_mkM _ _ _ (⟨t202, (rd_T98 l0_3 x4_1).f1, t203, (rd_T98 l0_3 x4_1).f3⟩ : S98)); (case aB => exact (by repeat (first | (with_reducible first | exact HB.out | apply below_alloc | apply pw_below_drewN | apply below_drew1 | refine below_set ?_ GE191.out | refine below_set ?_ GE192.out | refine below_set ?_ GE201.out) | exact HB.out))); (case aF => exact (fun k_ hk => Kd.freshB (g := gb201) (o := .cells #[.string t202, .bool ((rd_T98 l0_3 x4_1).f1), .string t203, .int .u32 ((rd_T98 l0_3 x4_1).f3)] 98 (0, 0)) (by (with_reducible repeat (first | refine blk_drewN ?_ _ | refine blk_drew ?_ | refine blk_alloc ?_ _)); refine blk_put (cs := #[.string t202, .bool ((rd_T98 l0_3 x4_1).f1), .string ((rd_T98 l0_3 x4_1).f2), .int .u32 ((rd_T98 l0_3 x4_1).f3)]) ?_ 2 _ rfl; (with_reducible repeat (first | refine blk_drewN ?_ _ | refine blk_drew ?_ | refine blk_alloc ?_ _)); refine blk_put (cs := #[.string ((rd_T98 l0_3 x4_1).f0), .bool ((rd_T98 l0_3 x4_1).f1), .string ((rd_T98 l0_3 x4_1).f2), .int .u32 ((rd_T98 l0_3 x4_1).f3)]) ?_ 0 _ rfl; (with_reducible repeat (first | refine blk_drewN ?_ _ | refine blk_drew ?_ | refine blk_alloc ?_ _)); exact BK201.out) k_ hk)); (case aO => exact (by (with_reducible repeat (first | apply Kd.R_alloc | apply Kd.R_drewN | apply Kd.R_drew)); exact Kd.R_mono (Kd.R_far (p := ⟨gb201, 2, none⟩) (Kd.R_far (p := ⟨gb201, 0, none⟩) (Kd.R_mono HO_3.out (fun k_ hk => (⟨hk, hk⟩ : _ ∧ k_ ≠ gb201))) (fun _ hk => hk.2) (.string t202)) (fun _ hk => hk.2) (.string t203)) (fun _ hk => hk.1))); (case aS => exact (below_size (by repeat (first | (with_reducible first | exact HB.out | apply below_alloc | apply pw_below_drewN | apply below_drew1 | refine below_set ?_ GE191.out | refine below_set ?_ GE192.out | refine below_set ?_ GE201.out) | exact HB.out)))); (case aL => have := LMc26.out; omega); intro v205 w40 ho hb hg hat; rw [← Ny204.out] at ho; have n0_ := Aside0.mk (Kd.R_over' (by (with_reducible repeat (first | apply Kd.R_alloc | apply Kd.R_drewN | apply Kd.R_drew)); exact (Kd.R_mono (Kd.R_far (p := ⟨gb201, 2, none⟩) (Kd.R_far (p := ⟨gb201, 0, none⟩) (Kd.R_types HO_192002.out BK201.out (by decide)) (fun _ hk => hk.2) (.string t202)) (fun _ hk => hk.2) (.string t203)) (fun _ h_ => h_.1))) (Kd.R_typed (by (with_reducible repeat (first | apply Kd.R_alloc | apply Kd.R_drewN | apply Kd.R_drew)); exact (Kd.R_mono (Kd.R_far (p := ⟨gb201, 2, none⟩) (Kd.R_far (p := ⟨gb201, 0, none⟩) (Kd.R_mono HO_3.out (fun k_ hk => (⟨hk, hk⟩ : _ ∧ k_ ≠ gb201))) (fun _ hk => hk.2) (.string t202)) (fun _ hk => hk.2) (.string t203)) (fun _ h_ => h_.1)))) (by decide) hg); have n1_ := Aside0.mk (Kd.R_over' (by (with_reducible repeat (first | apply Kd.R_alloc | apply Kd.R_drewN | apply Kd.R_drew)); exact (Kd.R_mono (Kd.R_far (p := ⟨gb201, 2, none⟩) (Kd.R_far (p := ⟨gb201, 0, none⟩) (Kd.R_types HO_192004.out BK201.out (by decide)) (fun _ hk => hk.2) (.string t202)) (fun _ hk => hk.2) (.string t203)) (fun _ h_ => h_.1))) (Kd.R_typed (by (with_reducible repeat (first | apply Kd.R_alloc | apply Kd.R_drewN | apply Kd.R_drew)); exact (Kd.R_mono (Kd.R_far (p := ⟨gb201, 2, none⟩) (Kd.R_far (p := ⟨gb201, 0, none⟩) (Kd.R_mono HO_3.out (fun k_ hk => (⟨hk, hk⟩ : _ ∧ k_ ≠ gb201))) (fun _ hk => hk.2) (.string t202)) (fun _ hk => hk.2) (.string t203)) (fun _ h_ => h_.1)))) (by decide) hg); have n2_ := Aside0.mk (blk_grown (g := gb191) (o := .cells #[.int .i64 t193, .int .u32 a0_1, .slice Ao10 t194.length co10, .slice (some ad200) l0_3.length c0_3, .slice Ao13 t197.length co13] 43 (0, 0)) (by (with_reducible repeat (first | refine blk_drewN ?_ _ | refine blk_drew ?_ | refine blk_alloc ?_ _)); refine blk_far ?_ NB191_201.out _; (with_reducible repeat (first | refine blk_drewN ?_ _ | refine blk_drew ?_ | refine blk_alloc ?_ _)); refine blk_far ?_ NB191_201.out _; (with_reducible repeat (first | refine blk_drewN ?_ _ | refine blk_drew ?_ | refine blk_alloc ?_ _)); exact BK191.out) hg (Kd.R_ne HO_3.out BK191.out (by decide))); have n3_ := Aside0.mk (blk_grown (g := gb192) (o := .cells #[.int .i64 0, .int .u32 0, .slice none 0 0, .slice none 0 0, .slice none 0 0] 43 (0, 0)) (by (with_reducible repeat (first | refine blk_drewN ?_ _ | refine blk_drew ?_ | refine blk_alloc ?_ _)); refine blk_far ?_ NB192_201.out _; (with_reducible repeat (first | refine blk_drewN ?_ _ | refine blk_drew ?_ | refine blk_alloc ?_ _)); refine blk_far ?_ NB192_201.out _; (with_reducible repeat (first | refine blk_drewN ?_ _ | refine blk_drew ?_ | refine blk_alloc ?_ _)); exact BK192.out) hg (Kd.R_ne HO_3.out BK192.out (by decide))); have n4_ := Aside0.mk (blk_grown (g := gb201) (o := .cells #[.string t202, .bool ((rd_T98 l0_3 x4_1).f1), .string t203, .int .u32 ((rd_T98 l0_3 x4_1).f3)] 98 (0, 0)) (by (with_reducible repeat (first | refine blk_drewN ?_ _ | refine blk_drew ?_ | refine blk_alloc ?_ _)); refine blk_put (cs := #[.string t202, .bool ((rd_T98 l0_3 x4_1).f1), .string ((rd_T98 l0_3 x4_1).f2), .int .u32 ((rd_T98 l0_3 x4_1).f3)]) ?_ 2 _ rfl; (with_reducible repeat (first | refine blk_drewN ?_ _ | refine blk_drew ?_ | refine blk_alloc ?_ _)); refine blk_put (cs := #[.string ((rd_T98 l0_3 x4_1).f0), .bool ((rd_T98 l0_3 x4_1).f1), .string ((rd_T98 l0_3 x4_1).f2), .int .u32 ((rd_T98 l0_3 x4_1).f3)]) ?_ 0 _ rfl; (with_reducible repeat (first | refine blk_drewN ?_ _ | refine blk_drew ?_ | refine blk_alloc ?_ _)); exact BK201.out) hg (Kd.R_away HO_3.out (fun _ hk => hk))); have n5_ := Aside0.mk (hb); have n6_ := Aside0.mk (ho); clear HO_192002; clear HO_192004; clear BK191; clear BK192; clear BK201; clear HB; clear HO_3; have HO_192002 := n0_; have HO_192004 := n1_; have BK191 := n2_; have BK192 := n3_; have BK201 := n4_; have HB := n5_; have HO206 := n6_; clear n0_ n1_ n2_ n3_ n4_ n5_ n6_; clear ho hb hg hat))
                  go_roundg kj14
                  case measure => have := HK1.out; have := HJ14.out; omega
                  case rel => exact ⟨(y204), (wrap64 (x4_1 + 1)), (by first | rfl | (simp; done) | (simp [*]; done)), H', ⟨by have := HK1.out; have := HJ14.out; omega⟩, ⟨by (with_reducible repeat (first | apply Kd.R_alloc | apply Kd.R_drewN | apply Kd.R_drew)); exact Kd.R_mono HO206.out (fun _ hk => trivial)⟩, ⟨by (with_reducible repeat (first | apply Kd.R_alloc | apply Kd.R_drewN | apply Kd.R_drew)); exact HO_192002.out⟩, ⟨by (with_reducible repeat (first | apply Kd.R_alloc | apply Kd.R_drewN | apply Kd.R_drew)); exact HO_192004.out⟩, ⟨by (with_reducible repeat (first | refine blk_drewN ?_ _ | refine blk_drew ?_ | refine blk_alloc ?_ _)); exact BK191.out⟩, ⟨by (with_reducible repeat (first | refine blk_drewN ?_ _ | refine blk_drew ?_ | refine blk_alloc ?_ _)); exact BK192.out⟩, ⟨by repeat (first | (with_reducible first | exact HB.out | apply below_alloc | apply pw_below_drewN | apply below_drew1 | refine below_set ?_ GE191.out | refine below_set ?_ GE192.out | refine below_set ?_ GE201.out) | exact HB.out)⟩⟩
                · rw [if_neg c26] at H
                  exact absurd H (by simp)
              · rw [if_neg c23] at H
                exact absurd H (by simp)
            · rw [if_neg c22] at H
              exact absurd H (by simp)
          · replace c21 := Bool.eq_false_iff.mpr c21
            subst c21
            have H1 : (some (t193, a0_1, t194, x3_1, t197)) = some (r1, r2, r3, r4, r5) := by rw [if_neg (show ¬ (false = true) by decide)] at H; exact H
            clear H
            have H := H1
            clear H1
            simp only [Option.some.injEq, Prod.mk.injEq] at H
            obtain ⟨rfl, rfl, rfl, rfl, rfl⟩ := H
            obtain ⟨Ao41, co41, eo41⟩ := Kd.R_slice HO_3.out
            subst eo41
            have hnb42 := NB191_192.out
            have hnc42 := NB192_191.out
            have hcz43_0 : wc.cell? ⟨gb191, 0, none⟩ = some (.int .i64 t193) := (blk_cell BK191.out 0).trans rfl
            have hcz43_1 : wc.cell? ⟨gb191, 1, none⟩ = some (.int .u32 a0_1) := (blk_cell BK191.out 1).trans rfl
            have hcz43_2 : wc.cell? ⟨gb191, 2, none⟩ = some (.slice Ao10 t194.length co10) := (blk_cell BK191.out 2).trans rfl
            have hcz43_3 : wc.cell? ⟨gb191, 3, none⟩ = some (.slice A0_3 l0_3.length c0_3) := (blk_cell BK191.out 3).trans rfl
            have hcz43_4 : wc.cell? ⟨gb191, 4, none⟩ = some (.slice Ao13 t197.length co13) := (blk_cell BK191.out 4).trans rfl
            have hfz43_0 := blk_frozen BK191.out 0
            have hfz43_1 := blk_frozen BK191.out 1
            have hfz43_2 := blk_frozen BK191.out 2
            have hfz43_3 := blk_frozen BK191.out 3
            have hfz43_4 := blk_frozen BK191.out 4
            have hcz44_0 : wc.cell? ⟨gb192, 0, none⟩ = some (.int .i64 0) := (blk_cell BK192.out 0).trans rfl
            have hcz44_1 : wc.cell? ⟨gb192, 1, none⟩ = some (.int .u32 0) := (blk_cell BK192.out 1).trans rfl
            have hcz44_2 : wc.cell? ⟨gb192, 2, none⟩ = some (.slice none 0 0) := (blk_cell BK192.out 2).trans rfl
            have hcz44_3 : wc.cell? ⟨gb192, 3, none⟩ = some (.slice none 0 0) := (blk_cell BK192.out 3).trans rfl
            have hcz44_4 : wc.cell? ⟨gb192, 4, none⟩ = some (.slice none 0 0) := (blk_cell BK192.out 4).trans rfl
            have hfz44_0 := blk_frozen BK192.out 0
            have hfz44_1 := blk_frozen BK192.out 1
            have hfz44_2 := blk_frozen BK192.out 2
            have hfz44_3 := blk_frozen BK192.out 3
            have hfz44_4 := blk_frozen BK192.out 4
            go_wp2
            refine bodyPost_ret (results_cell_row rfl _ _ gb192 43 #[.int .i64 t193, .int .u32 a0_1, .slice Ao10 t194.length co10, .slice Ao41 x3_1.length co41, .slice Ao13 t197.length co13] (0, 0) _ rfl (by (with_reducible repeat (first | refine blk_drewN ?_ _ | refine blk_drew ?_ | refine blk_alloc ?_ _)); refine blk_put (cs := #[.int .i64 t193, .int .u32 a0_1, .slice Ao10 t194.length co10, .slice Ao41 x3_1.length co41, .slice none 0 0]) ?_ 4 _ rfl; (with_reducible repeat (first | refine blk_drewN ?_ _ | refine blk_drew ?_ | refine blk_alloc ?_ _)); refine blk_put (cs := #[.int .i64 t193, .int .u32 a0_1, .slice Ao10 t194.length co10, .slice none 0 0, .slice none 0 0]) ?_ 3 _ rfl; (with_reducible repeat (first | refine blk_drewN ?_ _ | refine blk_drew ?_ | refine blk_alloc ?_ _)); refine blk_put (cs := #[.int .i64 t193, .int .u32 a0_1, .slice none 0 0, .slice none 0 0, .slice none 0 0]) ?_ 2 _ rfl; (with_reducible repeat (first | refine blk_drewN ?_ _ | refine blk_drew ?_ | refine blk_alloc ?_ _)); refine blk_put (cs := #[.int .i64 t193, .int .u32 0, .slice none 0 0, .slice none 0 0, .slice none 0 0]) ?_ 1 _ rfl; (with_reducible repeat (first | refine blk_drewN ?_ _ | refine blk_drew ?_ | refine blk_alloc ?_ _)); refine blk_put (cs := #[.int .i64 0, .int .u32 0, .slice none 0 0, .slice none 0 0, .slice none 0 0]) ?_ 0 _ rfl; (with_reducible repeat (first | refine blk_drewN ?_ _ | refine blk_drew ?_ | refine blk_alloc ?_ _)); refine blk_far ?_ NB192_191.out _; (with_reducible repeat (first | refine blk_drewN ?_ _ | refine blk_drew ?_ | refine blk_alloc ?_ _)); exact BK192.out) Tryd.underlying43 rfl (by kernel_rfl)) rfl ?_
            exact ⟨_, _, _, by first | rfl | (simp [errW_none, errW_some] <;> rfl) | (simp [*, errW_none, errW_some] <;> rfl), by (with_reducible repeat (first | apply Kd.R_alloc | apply Kd.R_drewN | apply Kd.R_drew)); exact Kd.R_mono (Kd.R_far (p := ⟨gb192, 4, none⟩) (Kd.R_far (p := ⟨gb192, 3, none⟩) (Kd.R_far (p := ⟨gb192, 2, none⟩) (Kd.R_far (p := ⟨gb192, 1, none⟩) (Kd.R_far (p := ⟨gb192, 0, none⟩) (Kd.R_far (p := ⟨gb191, 3, none⟩) (Kd.R_types (Kd.R_types HO_192002.out BK191.out (by decide)) BK192.out (by decide)) (fun _ hk => hk.1.2) (.slice Ao41 x3_1.length co41)) (fun _ hk => hk.2) (.int .i64 t193)) (fun _ hk => hk.2) (.int .u32 a0_1)) (fun _ hk => hk.2) (.slice Ao10 t194.length co10)) (fun _ hk => hk.2) (.slice Ao41 x3_1.length co41)) (fun _ hk => hk.2) (.slice Ao13 t197.length co13)) (fun _ hk => trivial), by (with_reducible repeat (first | apply Kd.R_alloc | apply Kd.R_drewN | apply Kd.R_drew)); exact Kd.R_mono (Kd.R_far (p := ⟨gb192, 4, none⟩) (Kd.R_far (p := ⟨gb192, 3, none⟩) (Kd.R_far (p := ⟨gb192, 2, none⟩) (Kd.R_far (p := ⟨gb192, 1, none⟩) (Kd.R_far (p := ⟨gb192, 0, none⟩) (Kd.R_far (p := ⟨gb191, 3, none⟩) (Kd.R_types (Kd.R_types HO_3.out BK191.out (by decide)) BK192.out (by decide)) (fun _ hk => hk.1.2) (.slice Ao41 x3_1.length co41)) (fun _ hk => hk.2) (.int .i64 t193)) (fun _ hk => hk.2) (.int .u32 a0_1)) (fun _ hk => hk.2) (.slice Ao10 t194.length co10)) (fun _ hk => hk.2) (.slice Ao41 x3_1.length co41)) (fun _ hk => hk.2) (.slice Ao13 t197.length co13)) (fun _ hk => trivial), by (with_reducible repeat (first | apply Kd.R_alloc | apply Kd.R_drewN | apply Kd.R_drew)); exact Kd.R_mono (Kd.R_far (p := ⟨gb192, 4, none⟩) (Kd.R_far (p := ⟨gb192, 3, none⟩) (Kd.R_far (p := ⟨gb192, 2, none⟩) (Kd.R_far (p := ⟨gb192, 1, none⟩) (Kd.R_far (p := ⟨gb192, 0, none⟩) (Kd.R_far (p := ⟨gb191, 3, none⟩) (Kd.R_types (Kd.R_types HO_192004.out BK191.out (by decide)) BK192.out (by decide)) (fun _ hk => hk.1.2) (.slice Ao41 x3_1.length co41)) (fun _ hk => hk.2) (.int .i64 t193)) (fun _ hk => hk.2) (.int .u32 a0_1)) (fun _ hk => hk.2) (.slice Ao10 t194.length co10)) (fun _ hk => hk.2) (.slice Ao41 x3_1.length co41)) (fun _ hk => hk.2) (.slice Ao13 t197.length co13)) (fun _ hk => trivial), by repeat (first | (with_reducible first | exact HB.out | apply below_alloc | apply pw_below_drewN | apply below_drew1 | refine below_set ?_ GE191.out | refine below_set ?_ GE192.out) | exact HB.out)⟩
def cachepotref1_Fill.l0 : Nat → Int → List Int → Int → Option (ByteArray)
  | 0, _, _, _ => none
  | k + 1, x0, x5, x6 => if x6 < (x5.length : Int) then (if 0 ≤ x6 then (cachepotref1_Fill.l0 k x0 (x5.set (x6 : Int).toNat x0) (wrap64 (x6 + 1))) else (none)) else (some (strOfNums x5))
def cachepotref1_Fill.f (k : Nat) (a0 : Int) (a1 : Int) : Option (ByteArray) := if 0 ≤ (mx a1 0) then (if (mx a1 0 : Int).toNat ≤ 281474976710656 then (cachepotref1_Fill.l0 k a0 (List.replicate (mx a1 0 : Int).toNat 0) 0) else (none)) else (none)
set_option maxHeartbeats 8000000 in
set_option maxRecDepth 100000 in
theorem cachepotref1_Fill.calls (k : Nat) (a0 : Int) (a1 : Int) (r : ByteArray) (w : World) (h : cachepotref1_Fill.f k a0 a1 = some r) :
    Calls Tryd.prog 119 #[.int .u8 a0, .int .i64 a1] w fun e w' => e = .returned (.string r) ∧ Below w.heap.size w w' := by
  have HB := Aside0.mk (Below.refl w.heap.size w)
  have H : (if 0 ≤ (mx a1 0) then (if (mx a1 0 : Int).toNat ≤ 281474976710656 then (cachepotref1_Fill.l0 k a0 (List.replicate (mx a1 0 : Int).toNat 0) 0) else (none)) else (none)) = some r := h
  clear h
  obtain ⟨ji3, hji3⟩ : ∃ j_ : Int, (mx a1 0) = j_ := ⟨_, rfl⟩
  replace H : (if 0 ≤ (ji3) then (if (ji3 : Int).toNat ≤ 281474976710656 then (cachepotref1_Fill.l0 k a0 (List.replicate (ji3 : Int).toNat 0) 0) else (none)) else (none)) = some r := by first | (rw [hji3] at H; exact H) | (simp only [hji3] at H ⊢; exact H)
  (try (have hji3l : 0 ≤ ji3 := by (rw [← hji3]; unfold mx; (repeat' split) <;> omega)))
  (try (have hji3m : 0 ≤ ji3 := by omega))
  have hji3_ : (if a1 < 0 then 0 else a1) = ji3 := hji3
  by_cases c4 : 0 ≤ (ji3)
  · rw [if_pos c4] at H
    have c4b0 := eq_true c4
    have c4b1 : decide (0 ≤ (ji3)) = true := decide_eq_true c4
    clear c4
    by_cases c5 : (ji3 : Int).toNat ≤ 281474976710656
    · rw [if_pos c5] at H
      have c5b0 := eq_true c5
      have c5b1 : decide ((ji3 : Int).toNat ≤ 281474976710656) = true := decide_eq_true c5
      clear c5
      obtain ⟨y207, hy207⟩ : ∃ y_ : List Int, y_ = (List.replicate (ji3 : Int).toNat 0) := ⟨_, rfl⟩
      replace H : (cachepotref1_Fill.l0 k a0 y207 0) = some r := by first | (rw [hy207]; with_reducible exact H) | (have H2_ := (Option.bind_some _ _).symm.trans H; rw [hy207]; with_reducible exact H2_) | (have H2_ := (Option.bind_some _ _).symm.trans H; with_reducible exact H2_) | with_reducible exact H | (rw [hy207]; exact H) | exact H
      have Ny207 := Aside0.mk hy207
      clear hy207
      have H' := Aside0.mk H
      clear H
      go_enter Tryd.func119, Tryd.ntmps119
      go_wp2_with (first | ((with_reducible refine gate_dst (N := 9) rfl ?_); refine Kd.R_make (Kd.int .u8) _ 5 rfl (N := 9) rfl 32 _ _ rfl ji3 rfl rfl Tryd.underlying32 (.int .u8 0) 1 info5 rfl (by decide) (by omega) 0 (ok := fun _ => True) (okp := fun _ => True) rfl (fun _ hk => hk) trivial (of_decide_eq_true (by first | (with_reducible assumption) | assumption)) (Nat.le_trans (Nat.mul_le_mul_right _ (of_decide_eq_true (by first | (with_reducible assumption) | assumption) : ji3.toNat ≤ 281474976710656)) (by omega)) (Below.refl _ _) (Nat.le_refl _) ?_; intro v208 w6 ho7 hb hg_ hnew_; clear hg_ hnew_; (first | rw [← Ny207.out] at ho7 | (simp only [Int.reduceToNat] at ho7; rw [← Ny207.out] at ho7)); have n0_ := Aside0.mk (Kd.R_lower ho7 (below_size (by repeat (first | (with_reducible first | exact HB.out | apply below_alloc | apply pw_below_drewN | apply below_drew1) | exact HB.out)))); have n1_ := Aside0.mk (below_step (by repeat (first | (with_reducible first | exact HB.out | apply below_alloc | apply pw_below_drewN | apply below_drew1) | exact HB.out)) hb); clear HB; have HO209 := n0_; have HB := n1_; clear n0_ n1_; clear hb ho7))
      go_loopg [6] k (fun kq v6 w' => ∃ (x5_1 : List Int) (x6_1 : Int), v6 = .int .i64 x6_1 ∧ Aside0 (cachepotref1_Fill.l0 kq a0 x5_1 x6_1 = some r) ∧ Aside0 (kq ≤ k) ∧ Aside0 (Kd.R (Kd.int .u8) 5 w' w.heap.size (fun _ => True) v208 x5_1) ∧ Aside0 (Below w.heap.size w w'))
      case atStart => exact ⟨(y207), (0), (by first | rfl | (simp; done) | (simp [*]; done)), H', ⟨Nat.le_refl _⟩, ⟨by (with_reducible repeat (first | apply Kd.R_alloc | apply Kd.R_drewN | apply Kd.R_drew)); exact HO209.out⟩, ⟨by repeat (first | (with_reducible first | exact HB.out | apply below_alloc | apply pw_below_drewN | apply below_drew1) | exact HB.out)⟩⟩
      case round =>
        clear H'
        try clear c1
        try clear p2
        try clear c4
        try clear c4b0
        try clear c4b1
        try clear c5
        try clear c5b0
        try clear c5b1
        obtain ⟨x5_1, x6_1, rfl, HA, HK1, HO_5, HB⟩ := hrel
        cases gk with
        | zero => exact absurd HA.out (by simp [cachepotref1_Fill.l0])
        | succ k1 =>
          have H := HA.out
          clear HA
          simp only [cachepotref1_Fill.l0] at H
          by_cases c8 : x6_1 < (x5_1.length : Int)
          · rw [if_pos c8] at H
            have c8b0 : decide (x6_1 < (x5_1.length : Int)) = true := decide_eq_true c8
            clear c8
            by_cases c9 : 0 ≤ x6_1
            · rw [if_pos c9] at H
              have c9b0 : decide (0 ≤ x6_1) = true := decide_eq_true c9
              clear c9
              obtain ⟨y210, hy210⟩ : ∃ y_ : List Int, y_ = (x5_1.set (x6_1 : Int).toNat a0) := ⟨_, rfl⟩
              replace H : (cachepotref1_Fill.l0 k1 a0 y210 (wrap64 (x6_1 + 1))) = some r := by first | (rw [hy210]; with_reducible exact H) | (have H2_ := (Option.bind_some _ _).symm.trans H; rw [hy210]; with_reducible exact H2_) | (have H2_ := (Option.bind_some _ _).symm.trans H; with_reducible exact H2_) | with_reducible exact H | (rw [hy210]; exact H) | exact H
              have Ny210 := Aside0.mk hy210
              clear hy210
              have H' := Aside0.mk H
              clear H
              obtain ⟨Ao11, co11, eo11⟩ := Kd.R_slice HO_5.out
              subst eo11
              have p10 : 0 ≤ (x6_1 : Int) := of_decide_eq_true (by first | (with_reducible assumption) | assumption)
              have q10 : (x6_1 : Int) < ((x5_1.length : Int) : Int) := of_decide_eq_true (by first | (with_reducible assumption) | assumption)
              obtain ⟨go10, co10, eo10, gb10, gl10, cl10, HG10⟩ := Kd.R_form HO_5.out (by omega)
              (first | cases eo10 | (injection eo10 with ea_ en_ ec_; (first | subst ea_ | (injection ea_ with ea_; subst ea_)); subst ec_; clear en_))
              have GB10 := Aside0.mk gb10
              have GG10 := Aside0.mk HG10
              clear gb10 gl10 HG10
              obtain ⟨hx10_0, hf10_0⟩ := Kd.R_celln 0 HO_5.out (x6_1 : Int) p10 q10
              replace p10 := eq_true p10
              replace q10 := eq_true q10
              have HP12 := Kd.R_putg HO_5.out (x6_1 : Int) a0
              go_wp2_with (first | ((with_reducible refine gate_store (t := 5) (p := 19) rfl ?_); refine store_event (t := 5) (p := 19) (v := ?vo_w13) (w1 := (wr.setCell ⟨go10, (x6_1 : Int).toNat, none⟩ (.int .u8 a0))) ?hg ?ho ?hn ?hr ?_; (case ho => rfl); (case hg => rfl); (case hn => rfl); (case hr => first | (go_simp; done) | (go_simp; rfl)); intro w13 hw; have hg : wr.grownBy w13 (some go10) := (by rw [hw]; exact HP12.2); have hp_ : Kd.R (Kd.int .u8) 5 w13 w.heap.size (fun _ => True) (.slice (some ⟨go10, 0, none⟩) x5_1.length co11) y210 := (by rw [hw, Ny210.out]; exact HP12.1); clear HP12; have n0_ := Aside0.mk (hp_); have n1_ := Aside0.mk ((by rw [hw]; exact below_set (HB.out) GB10.out : Below w.heap.size w w13)); clear HO_5; clear HB; have HO_5 := n0_; have HB := n1_; clear n0_ n1_; clear hg hw hp_))
              go_roundg k1
              case measure => have := HK1.out; omega
              case rel => exact ⟨(y210), (wrap64 (x6_1 + 1)), (by first | rfl | (simp; done) | (simp [*]; done)), H', ⟨by have := HK1.out; omega⟩, ⟨by (with_reducible repeat (first | apply Kd.R_alloc | apply Kd.R_drewN | apply Kd.R_drew)); exact HO_5.out⟩, ⟨by repeat (first | (with_reducible first | exact HB.out | apply below_alloc | apply pw_below_drewN | apply below_drew1) | exact HB.out)⟩⟩
            · rw [if_neg c9] at H
              exact absurd H (by simp)
          · rw [if_neg c8] at H
            have c8b0 : decide (x6_1 < (x5_1.length : Int)) = false := decide_eq_false c8
            clear c8
            obtain rfl := Option.some.inj H
            obtain ⟨Ao14, co14, eo14⟩ := Kd.R_slice HO_5.out
            subst eo14
            have hcv15 := own_string (P := Tryd.prog) Tryd.underlying32 Tryd.underlying5 Tryd.underlying9 (Kd.own_of_R HO_5.out)
            go_wp2
            go_ret
            exact ⟨by first | rfl | (simp [errW_none, errW_some] <;> rfl) | (simp only [← hji3]; first | rfl | (simp [errW_none, errW_some] <;> rfl)) | (simp [*, errW_none, errW_some] <;> rfl), by repeat (first | (with_reducible first | exact HB.out | apply below_alloc | apply pw_below_drewN | apply below_drew1) | exact HB.out)⟩
    · rw [if_neg c5] at H
      exact absurd H (by simp)
  · rw [if_neg c4] at H
    exact absurd H (by simp)
def cachepothand_Val.f (k : Nat) (a0 : ByteArray) (a1 : Int) : Option (ByteArray) := (cachepotbook_Pick.f a1 9).bind fun t211 => (if t211 = 8 then ((cachepotref1_Fill.f k 120 40).bind fun t212 => (if a0.size + t212.size ≤ 9223372036854775807 then ((cachepotbook_Short.f (a0 ++ t212) 48).bind fun t213 => (some t213)) else (none))) else ((cachepotbook_Short.f a0 48).bind fun t214 => (some t214)))
set_option maxHeartbeats 8000000 in
set_option maxRecDepth 100000 in
theorem cachepothand_Val.calls (k : Nat) (a0 : ByteArray) (a1 : Int) (r : ByteArray) (w : World) (h : cachepothand_Val.f k a0 a1 = some r) :
    Calls Tryd.prog 100 #[.string a0, .int .i64 a1] w fun e w' => e = .returned (.string r) ∧ Below w.heap.size w w' := by
  have HB := Aside0.mk (Below.refl w.heap.size w)
  have H : ((cachepotbook_Pick.f a1 9).bind fun t211 => (if t211 = 8 then ((cachepotref1_Fill.f k 120 40).bind fun t212 => (if a0.size + t212.size ≤ 9223372036854775807 then ((cachepotbook_Short.f (a0 ++ t212) 48).bind fun t213 => (some t213)) else (none))) else ((cachepotbook_Short.f a0 48).bind fun t214 => (some t214)))) = some r := h
  clear h
  replace H := Option.bind_eq_some_iff.mp H
  obtain ⟨t211, A30, H⟩ := H
  replace H : (if t211 = 8 then ((cachepotref1_Fill.f k 120 40).bind fun t212 => (if a0.size + t212.size ≤ 9223372036854775807 then ((cachepotbook_Short.f (a0 ++ t212) 48).bind fun t213 => (some t213)) else (none))) else ((cachepotbook_Short.f a0 48).bind fun t214 => (some t214))) = some r := H
  have A3 := Aside0.mk A30
  clear A30
  by_cases c4 : t211 = 8
  · rw [if_pos c4] at H
    have c4b0 : (t211 == 8) = true := beq_iff_eq.mpr c4
    have c4b1 : (t211 != 8) = false := bne_eq_false_iff_eq.mpr c4
    clear c4
    replace H := Option.bind_eq_some_iff.mp H
    obtain ⟨t212, A50, H⟩ := H
    replace H : (if a0.size + t212.size ≤ 9223372036854775807 then ((cachepotbook_Short.f (a0 ++ t212) 48).bind fun t213 => (some t213)) else (none)) = some r := H
    have A5 := Aside0.mk A50
    clear A50
    by_cases c6 : a0.size + t212.size ≤ 9223372036854775807
    · rw [if_pos c6] at H
      have c6b0 := eq_true c6
      have c6b1 : decide (a0.size + t212.size ≤ 9223372036854775807) = true := decide_eq_true c6
      try have c6b2 : (9223372036854775807 < a0.size + t212.size) = False := eq_false (Nat.not_lt.2 c6)
      replace H := Option.bind_eq_some_iff.mp H
      obtain ⟨t213, A70, H⟩ := H
      replace H : (some t213) = some r := H
      have A7 := Aside0.mk A70
      clear A70
      obtain rfl := Option.some.inj H
      go_enter Tryd.func100, Tryd.ntmps100
      go_wp2_with (first | ((with_reducible refine gate_callee (f := 25) rfl ?_); refine goesL_ (some 6) rfl rfl Tryd.func25 (by kernel_rfl) rfl #[.int .i64 a1, .int .i64 9] rfl (by (try simp only [List.map_toArray, List.map_cons, List.map_nil]); first | done | rfl | (simp only [List.length_drop, List.length_take]; rfl)) ?_; (with_reducible refine (cachepotbook_Pick.calls a1 9 t211 _ A3.out).mono ?_); rintro e w' ⟨rfl, ⟨nd, rfl⟩⟩; refine ⟨_, rfl, ?_⟩) | ((with_reducible refine gate_callee (f := 119) rfl ?_); refine goesL_ (some 9) rfl rfl Tryd.func119 (by kernel_rfl) rfl #[.int .u8 120, .int .i64 40] rfl (by (try simp only [List.map_toArray, List.map_cons, List.map_nil]); first | done | rfl | (simp only [List.length_drop, List.length_take]; rfl)) ?_; (with_reducible refine (cachepotref1_Fill.calls k 120 40 t212 _ A5.out).mono ?_); rintro e w8 ⟨rfl, hb⟩; refine ⟨_, rfl, ?_⟩; have n0_ := Aside0.mk (below_step (by repeat (first | (with_reducible first | exact HB.out | apply below_alloc | apply pw_below_drewN | apply below_drew1) | exact HB.out)) hb); clear HB; have HB := n0_; clear n0_; (try clear hb); (try clear hb2); (try clear hk); (try clear hi)) | ((with_reducible refine gate_callee (f := 27) rfl ?_); refine goesL_ (some 12) rfl rfl Tryd.func27 (by kernel_rfl) rfl #[.string (a0 ++ t212), .int .i64 48] rfl (by (try simp only [List.map_toArray, List.map_cons, List.map_nil]); first | done | rfl | (simp only [List.length_drop, List.length_take]; rfl)) ?_; (with_reducible refine (cachepotbook_Short.calls (a0 ++ t212) 48 t213 _ A7.out).mono ?_); rintro e w9 ⟨rfl, hb⟩; refine ⟨_, rfl, ?_⟩; have n0_ := Aside0.mk (below_step (by repeat (first | (with_reducible first | exact HB.out | apply below_alloc | apply pw_below_drewN | apply below_drew1) | exact HB.out)) hb); clear HB; have HB := n0_; clear n0_; (try clear hb); (try clear hb2); (try clear hk); (try clear hi)))
      go_ret
      exact ⟨by first | rfl | (simp [errW_none, errW_some] <;> rfl) | (simp [*, errW_none, errW_some] <;> rfl), by repeat (first | (with_reducible first | exact HB.out | apply below_alloc | apply pw_below_drewN | apply below_drew1) | exact HB.out)⟩
    · rw [if_neg c6] at H
      exact absurd H (by simp)
  · rw [if_neg c4] at H
    have c4b0 : (t211 == 8) = false := beq_eq_false_iff_ne.mpr c4
    have c4b1 : (t211 != 8) = true := bne_iff_ne.mpr c4
    replace H := Option.bind_eq_some_iff.mp H
    obtain ⟨t214, A100, H⟩ := H
    replace H : (some t214) = some r := H
    have A10 := Aside0.mk A100
    clear A100
    obtain rfl := Option.some.inj H
    go_enter Tryd.func100, Tryd.ntmps100
    go_wp2_with (first | ((with_reducible refine gate_callee (f := 25) rfl ?_); refine goesL_ (some 6) rfl rfl Tryd.func25 (by kernel_rfl) rfl #[.int .i64 a1, .int .i64 9] rfl (by (try simp only [List.map_toArray, List.map_cons, List.map_nil]); first | done | rfl | (simp only [List.length_drop, List.length_take]; rfl)) ?_; (with_reducible refine (cachepotbook_Pick.calls a1 9 t211 _ A3.out).mono ?_); rintro e w' ⟨rfl, ⟨nd, rfl⟩⟩; refine ⟨_, rfl, ?_⟩) | ((with_reducible refine gate_callee (f := 27) rfl ?_); refine goesL_ (some 12) rfl rfl Tryd.func27 (by kernel_rfl) rfl #[.string a0, .int .i64 48] rfl (by (try simp only [List.map_toArray, List.map_cons, List.map_nil]); first | done | rfl | (simp only [List.length_drop, List.length_take]; rfl)) ?_; (with_reducible refine (cachepotbook_Short.calls a0 48 t214 _ A10.out).mono ?_); rintro e w11 ⟨rfl, hb⟩; refine ⟨_, rfl, ?_⟩; have n0_ := Aside0.mk (below_step (by repeat (first | (with_reducible first | exact HB.out | apply below_alloc | apply pw_below_drewN | apply below_drew1) | exact HB.out)) hb); clear HB; have HB := n0_; clear n0_; (try clear hb); (try clear hb2); (try clear hk); (try clear hi)))
    go_ret
    exact ⟨by first | rfl | (simp [errW_none, errW_some] <;> rfl) | (simp [*, errW_none, errW_some] <;> rfl), by repeat (first | (with_reducible first | exact HB.out | apply below_alloc | apply pw_below_drewN | apply below_drew1) | exact HB.out)⟩
end Go.Proofs.YtfaelejeihmgcaaDoor.Lgx
end

section
namespace Go.Proofs
open Go.Shelf
def Tryd.lays169_ren : Go.Shelf.Ren := ⟨fun | 169 => 59 | n => n, fun | 70 => 80 | 9 => 9 | 0 => 0 | 72 => 82 | 37 => 32 | 127 => 132 | 3 => 3 | 5 => 5 | n => n, fun | n => n⟩
theorem Tryd.lays169 : Go.Proofs.Lays.n169 Tryd.prog Tryd.lays169_ren := {
  mixed := by kernel_rfl
  f169 := Tryd.func59.trans (congrArg some (by kernel_rfl))
  t0 := Tryd.underlying0
  a0 := Tryd.isAgg0
  z0 := Tryd.sizeOf0
  v0 := Tryd.zeroValue0
  t3 := Tryd.underlying3
  a3 := Tryd.isAgg3
  z3 := Tryd.sizeOf3
  v3 := Tryd.zeroValue3
  t9 := Tryd.underlying9
  a9 := Tryd.isAgg9
  z9 := Tryd.sizeOf9
  v9 := Tryd.zeroValue9
  t37 := Tryd.underlying32
  a37 := Tryd.isAgg32
  z37 := Tryd.sizeOf32
  v37 := Tryd.zeroValue32
  t70 := Tryd.underlying80
  a70 := Tryd.isAgg80
  z70 := Tryd.sizeOf80
  v70 := Tryd.zeroValue80
  t72 := Tryd.underlying82
  a72 := Tryd.isAgg82
  z72 := Tryd.sizeOf82
  v72 := Tryd.zeroValue82
  t127 := Tryd.underlying132
  a127 := Tryd.isAgg132
  z127 := Tryd.sizeOf132
  v127 := Tryd.zeroValue132 }
theorem Tryd.Builder_Extra_169 : Builder.Extra Tryd.prog Tryd.lays169_ren := {
  sizeBuilder := by kernel_rfl
  liesBuilder := by kernel_rfl
  t5 := Tryd.underlying5
  a5 := Tryd.isAgg5
  z5 := Tryd.sizeOf5
  v5 := Tryd.zeroValue5
  infoByte := by kernel_rfl
  cellsByte := by kernel_rfl
  sizeByte := by kernel_rfl
  neB5 := by decide }
open Go.RowKit in
theorem Tryd.Builder_String_any (B b : Nat) (l : List UInt8) (w : World) (h : Lib.IsBuilder 82 5 B b (Lib.byteCells l) w) (hBw : B ≤ w.heap.size) :
    Calls Tryd.prog 59 #[.pointer (some ⟨b, 0, none⟩)] w fun e w' => e = .returned (.string ⟨l.toArray⟩) ∧ Below B w w' := Any.Builder_String_any Tryd.lays169 Tryd.Builder_Extra_169 B b l w h hBw
def Tryd.lays156_ren : Go.Shelf.Ren := ⟨fun | 156 => 62 | 165 => 96 | 166 => 58 | 169 => 59 | 240 => 94 | 241 => 117 | 276 => 116 | 277 => 125 | n => n, fun | 31 => 22 | 9 => 9 | 3 => 3 | 4 => 4 | 0 => 0 | 20 => 20 | 72 => 82 | 76 => 88 | 70 => 80 | 37 => 32 | 75 => 84 | 127 => 132 | 164 => 157 | 5 => 5 | 80 => 91 | n => n, fun | n => n⟩
theorem Tryd.lays156 : Go.Proofs.Lays.n156 Tryd.prog Tryd.lays156_ren := {
  mixed := by kernel_rfl
  f156 := Tryd.func62.trans (congrArg some (by kernel_rfl))
  f165 := Tryd.func96.trans (congrArg some (by kernel_rfl))
  f166 := Tryd.func58.trans (congrArg some (by kernel_rfl))
  f169 := Tryd.func59.trans (congrArg some (by kernel_rfl))
  f240 := Tryd.func94.trans (congrArg some (by kernel_rfl))
  f241 := Tryd.func117.trans (congrArg some (by kernel_rfl))
  f276 := Tryd.func116.trans (congrArg some (by kernel_rfl))
  f277 := Tryd.func125.trans (congrArg some (by kernel_rfl))
  t0 := Tryd.underlying0
  a0 := Tryd.isAgg0
  z0 := Tryd.sizeOf0
  v0 := Tryd.zeroValue0
  t3 := Tryd.underlying3
  a3 := Tryd.isAgg3
  z3 := Tryd.sizeOf3
  v3 := Tryd.zeroValue3
  t4 := Tryd.underlying4
  a4 := Tryd.isAgg4
  z4 := Tryd.sizeOf4
  v4 := Tryd.zeroValue4
  t9 := Tryd.underlying9
  a9 := Tryd.isAgg9
  z9 := Tryd.sizeOf9
  v9 := Tryd.zeroValue9
  t20 := Tryd.underlying20
  a20 := Tryd.isAgg20
  z20 := Tryd.sizeOf20
  v20 := Tryd.zeroValue20
  t31 := Tryd.underlying22
  a31 := Tryd.isAgg22
  z31 := Tryd.sizeOf22
  v31 := Tryd.zeroValue22
  t37 := Tryd.underlying32
  a37 := Tryd.isAgg32
  z37 := Tryd.sizeOf32
  v37 := Tryd.zeroValue32
  t70 := Tryd.underlying80
  a70 := Tryd.isAgg80
  z70 := Tryd.sizeOf80
  v70 := Tryd.zeroValue80
  t72 := Tryd.underlying82
  a72 := Tryd.isAgg82
  z72 := Tryd.sizeOf82
  v72 := Tryd.zeroValue82
  t75 := Tryd.underlying84
  a75 := Tryd.isAgg84
  z75 := Tryd.sizeOf84
  v75 := Tryd.zeroValue84
  t76 := Tryd.underlying88
  a76 := Tryd.isAgg88
  z76 := Tryd.sizeOf88
  v76 := Tryd.zeroValue88
  t127 := Tryd.underlying132
  a127 := Tryd.isAgg132
  z127 := Tryd.sizeOf132
  v127 := Tryd.zeroValue132
  t164 := Tryd.underlying157
  a164 := Tryd.isAgg157
  z164 := Tryd.sizeOf157
  v164 := Tryd.zeroValue157 }
theorem Tryd.Builder_Extra_156 : Builder.Extra Tryd.prog Tryd.lays156_ren := {
  sizeBuilder := by kernel_rfl
  liesBuilder := by kernel_rfl
  t5 := Tryd.underlying5
  a5 := Tryd.isAgg5
  z5 := Tryd.sizeOf5
  v5 := Tryd.zeroValue5
  infoByte := by kernel_rfl
  cellsByte := by kernel_rfl
  sizeByte := by kernel_rfl
  neB5 := by decide }
open Go.RowKit in
theorem Tryd.strings_Join_none (a : Option Addr) (c : Nat) (sep : ByteArray) (w : World) :
    Calls Tryd.prog 62 #[.slice a 0 c, .string sep] w fun e w' => e = .returned (.string ⟨#[]⟩) ∧ w' = w := Any.strings_Join_none Tryd.lays156 Tryd.Builder_Extra_156 a c sep w
open Go.RowKit in
theorem Tryd.strings_Join (bk o c : Nat) (xs : List ByteArray) (sep : ByteArray) (w : World) (hcells : ∀ (j : Nat) x, xs[j]? = some x → w.cell? ⟨bk, o + j, none⟩ = some (.string x)) (hbk : bk < w.heap.size) (hN : xs.length ≤ 140737488355328) (hcap : xs.length ≤ c) (hlen : (Lib.join (xs.map (·.data.toList)) sep.data.toList).length ≤ 140737488355328) :
    Calls Tryd.prog 62 #[.slice (some ⟨bk, o, none⟩) xs.length c, .string sep] w fun e w' => e = .returned (.string ⟨(Lib.join (xs.map (·.data.toList)) sep.data.toList).toArray⟩) ∧ Below w.heap.size w w' := Any.strings_Join Tryd.lays156 Tryd.Builder_Extra_156 bk o c xs sep w hcells hbk hN hcap hlen
end Go.Proofs
end

section
namespace Go.Proofs.YtfaelejeihmgcaaDoor.Bld
open Go.RowKit
theorem info5 : (Tryd.prog.info? 5).map (fun i => (i.zero, i.size, i.bytes)) = some (some (.int .u8 0), 1, 1) := by kernel_rfl
theorem size82 : (Tryd.prog.info? 82).map (·.size) = some 2 := by kernel_rfl
theorem lies82 : liesAt Tryd.prog Tryd.prog.depth 82 (2 / Tryd.prog.cellsOf 82) 0 82 1 = true := by kernel_rfl
set_option maxHeartbeats 1000000 in
set_option maxRecDepth 100000 in
theorem copyCheck_fresh (b : Nat) (w : World) (h0 : w.cell? ⟨b, 0, none⟩ = some (.pointer none)) (hsh : w.shape? b = some (82, 2)) (hfz : w.frozen? ⟨b, 0, none⟩ = false) :
    Calls Tryd.prog 94 #[.pointer (some ⟨b, 0, none⟩)] w fun e w' => e = .returned (.tuple #[]) ∧ w' = w.setCell ⟨b, 0, none⟩ (.pointer (some ⟨b, 0, none⟩)) := by
  obtain ⟨j, hj, hjs⟩ := Option.map_eq_some_iff.1 size82
  go_enter Tryd.func94, Tryd.ntmps94
  go_wp2
  rw [Lib.run_to_unsafe w ⟨b, 0, none⟩ Tryd.underlying80 Tryd.underlying157 hj (by rw [hjs]; decide) hsh (Nat.zero_lt_succ 1)]
  simp only [Result.andThen]
  rw [Oper.upon_value]
  go_wp2
  rw [run_callFunc_extern Tryd.func116 (by kernel_rfl) (by kernel_rfl) (by kernel_rfl) (e := Extern.AbiNoEscape.same) (by kernel_rfl)]
  rw [Lib.run_noEscape]
  simp only [Result.andThen]
  rw [Oper.upon_value]
  go_wp2
  rw [Lib.run_from_unsafe w ⟨b, 0, none⟩ Tryd.underlying157 Tryd.underlying80 hj hsh lies82]
  simp only [Result.andThen]
  rw [Oper.upon_value]
  go_wp2
  go_end0
  exact ⟨rfl, rfl⟩
set_option maxHeartbeats 1000000 in
set_option maxRecDepth 100000 in
theorem copyCheck_used (b : Nat) (w : World) (h0 : w.cell? ⟨b, 0, none⟩ = some (.pointer (some ⟨b, 0, none⟩))) :
    Calls Tryd.prog 94 #[.pointer (some ⟨b, 0, none⟩)] w fun e w' => e = .returned (.tuple #[]) ∧ w' = w := by
  obtain ⟨j, hj, _⟩ := Option.map_eq_some_iff.1 size82
  go_enter Tryd.func94, Tryd.ntmps94
  go_wp2
  rw [Lib.run_neq_ptr_same w _ Tryd.underlying80 hj]
  go_wp2
  go_end0
  exact ⟨rfl, rfl⟩
/-- A builder in block b, its buffer v, which holds the bytes l; buffer and builder lie from block B on. -/
structure Is (B b : Nat) (v : Value) (l : List UInt8) (w : World) : Prop where
  hB : B ≤ b
  blk : ∃ p, (p = .pointer none ∨ p = .pointer (some ⟨b, 0, none⟩)) ∧ w.heap[b]? = some (.cells #[p, v] 82 (0, 0))
  own : w.ownsRow B 5 1 v l.length (Lib.byteCells l)
/-- Every block but the builder's and its buffer's stands. -/
def Kept (b : Nat) (v : Value) (w w' : World) : Prop := ∀ k o, w.heap[k]? = some o → k ≠ b → some k ≠ v.ownBlock → w'.heap[k]? = some o
theorem Is.lt {B b : Nat} {v : Value} {l : List UInt8} {w : World} (h : Is B b v l w) : b < w.heap.size := by
  obtain ⟨p, _, hb⟩ := h.blk
  exact (Array.getElem?_eq_some_iff.1 hb).1
theorem Is.ne {B b : Nat} {v : Value} {l : List UInt8} {w : World} (h : Is B b v l w) : v.ownBlock ≠ some b := by
  obtain ⟨p, _, hb⟩ := h.blk
  exact Lib.ownBlock_ne h.own hb (by decide)
/-- where the builder's and the buffer's blocks stand as_ they stood -/
theorem Is.move {B b : Nat} {v : Value} {l : List UInt8} {w w' : World} (h : Is B b v l w) (h0 : w'.heap[b]? = w.heap[b]?) (h1 : ∀ k, v.ownBlock = some k → w'.heap[k]? = w.heap[k]?) : Is B b v l w' := by
  refine ⟨h.hB, ?_, ?_⟩
  · obtain ⟨p, hp, hb⟩ := h.blk
    exact ⟨p, hp, h0.trans hb⟩
  · refine ⟨h.own.1, ?_⟩
    rcases h.own.2 with h2 | ⟨g, cap, cur, hv, hg, hc, r⟩
    · exact .inl h2
    · exact .inr ⟨g, cap, cur, hv, hg, (h1 g (by rw [hv]; rfl)).trans hc, r⟩
theorem Is.own_lt {B b : Nat} {v : Value} {l : List UInt8} {w : World} (h : Is B b v l w) : ∀ k, v.ownBlock = some k → k < w.heap.size := by
  intro k hk
  rcases h.own.2 with ⟨hv, _⟩ | ⟨g, cap, cur, hv, hg, hc, _⟩
  · rw [hv] at hk; simp [Value.ownBlock] at hk
  · rw [hv] at hk
    simp only [Value.ownBlock, Option.some.injEq] at hk
    subst hk
    exact (Array.getElem?_eq_some_iff.1 hc).1
theorem Is.below {B b : Nat} {v : Value} {l : List UInt8} {w w' : World} (h : Is B b v l w) (hb : Below w.heap.size w w') : Is B b v l w' :=
  h.move (hb.block b h.lt) (fun k hk => hb.block k (h.own_lt k hk))
theorem Is.drew {B b : Nat} {v : Value} {l : List UInt8} {w : World} (h : Is B b v l w) : Is B b v l w.drew := h.move rfl (fun _ _ => rfl)
theorem Is.alloc {B b : Nat} {v : Value} {l : List UInt8} {w : World} (h : Is B b v l w) (o : Obj) : Is B b v l (w.alloc o) :=
  h.move (Lib.alloc_old w o b h.lt) (fun k hk => Lib.alloc_old w o k (h.own_lt k hk))
theorem Is.builder {B b : Nat} {v : Value} {l : List UInt8} {w : World} (h : Is B b v l w) : Lib.IsBuilder 82 5 B b (Lib.byteCells l) w := by
  obtain ⟨p, hp, hb⟩ := h.blk
  have hA : Lib.BuilderAt 82 5 B b p (Lib.byteCells l) w := ⟨h.hB, v, hb, by rw [Lib.byteCells_length]; exact h.own, h.ne⟩
  rcases hp with rfl | rfl
  · exact .inl hA
  · exact .inr hA
/-- 'var b strings.Builder' -/
theorem Is.fresh (w : World) : Is w.heap.size w.heap.size (.slice none 0 0) [] (w.alloc (.cells #[.pointer none, .slice none 0 0] 82)) := by
  refine ⟨Nat.le_refl _, ⟨_, .inl rfl, ?_⟩, ⟨by simp [Lib.byteCells], .inl ⟨rfl, rfl⟩⟩⟩
  exact heap_alloc_new w _
theorem copyCheck (B b : Nat) (v : Value) (l : List UInt8) (w : World) (h : Is B b v l w) :
    Calls Tryd.prog 94 #[.pointer (some ⟨b, 0, none⟩)] w fun e w' => e = .returned (.tuple #[]) ∧ (w'.heap[b]? = some (.cells #[.pointer (some ⟨b, 0, none⟩), v] 82 (0, 0)) ∧ Is B b v l w' ∧ Below B w w' ∧ Kept b v w w') := by
  obtain ⟨p, hp, hb⟩ := h.blk
  rcases hp with rfl | rfl
  · refine (copyCheck_fresh b w (by rw [Lib.cell_of_heap hb]; rfl) (by simp [World.shape?, hb]) (Lib.frozen_of_heap hb 0)).mono ?_
    rintro e w' ⟨rfl, rfl⟩
    have e1 : (w.setCell ⟨b, 0, none⟩ (.pointer (some ⟨b, 0, none⟩))).heap[b]? = some (.cells #[.pointer (some ⟨b, 0, none⟩), v] 82 (0, 0)) := by
      simp [World.setCell, Array.getElem?_modify, hb]
    refine ⟨rfl, e1, ⟨h.hB, ⟨_, .inr rfl, e1⟩, ?_⟩, (Below.refl B w).setCell (p := ⟨b, 0, none⟩) h.hB _, fun k o hk hne _ => ?_⟩
    · exact h.own.kept (row := some b) ⟨rfl, rfl, rfl, by simp [World.setCell], fun k _ hk => Below.heap_setCell _ _ _ _ (fun e => hk (by simp [e]))⟩ (Or.inr h.ne)
    · rw [Below.heap_setCell _ _ _ _ (fun e => hne e)]
      exact hk
  · refine (copyCheck_used b w (by rw [Lib.cell_of_heap hb]; rfl)).mono ?_
    rintro e w' ⟨rfl, rfl⟩
    exact ⟨rfl, hb, h, Below.refl B _, fun _ _ hk _ _ => hk⟩
set_option maxHeartbeats 2000000 in
set_option maxRecDepth 100000 in
theorem writeByte (B b : Nat) (v : Value) (l : List UInt8) (c : UInt8) (w : World) (h : Is B b v l w) (hlen : l.length + 1 ≤ 140737488355328) (hBw : B ≤ w.heap.size) :
    Calls Tryd.prog 56 #[.pointer (some ⟨b, 0, none⟩), .int .u8 c.toNat] w fun e w' => e = .returned .nilIface ∧ ∃ v', Is B b v' (l ++ [c]) w' ∧ Below B w w' ∧ Kept b v w w' := by
  obtain ⟨i0, hi, hz0, hz1, hz2⟩ := info_parts info5
  go_enter Tryd.func56, Tryd.ntmps56
  go_wp2_with (go_at_call 94; refine (copyCheck B b v l _ h).mono ?_)
  rintro e w1 ⟨rfl, hbk, h1, hb1, hk1⟩
  have c0 : w1.cell? ⟨b, 0, none⟩ = some (.pointer (some ⟨b, 0, none⟩)) := by rw [Lib.cell_of_heap hbk]; rfl
  have c1 : w1.cell? ⟨b, 1, none⟩ = some v := by rw [Lib.cell_of_heap hbk]; rfl
  go_wp2_with (at_builtin; refine wpList_append_own _ rfl _ _ 32 rfl B 5 i0 (.int .u8 0) 1 1 Tryd.underlying32 hi hz0 hz1 hz2 rfl (by decide) _ _ _ rfl (h1.own.alloc _) ⟨w1.heap.size, 0, none⟩ 1 1 [.int .u8 c.toNat] rfl rfl ?c1 ?c2 ?c3 ?c4 ?c5 ?_)
  case c1 =>
    intro j u hj
    match j, hj with
    | 0, hj => simp at hj; subst hj; simp [Addr.add]
  case c2 => intro u hu; simp at hu; subst hu; rfl
  case c3 => unfold maxLen; omega
  case c4 => omega
  case c5 => have := hb1.size; simp; omega
  intro v' w2 hown' hgrow _
  have hlt : b < w1.heap.size := h1.lt
  have hb2 : w2.heap[b]? = some (.cells #[.pointer (some ⟨b, 0, none⟩), v] 82 (0, 0)) := by
    rw [hgrow.block b (by simp; omega) (fun e => h1.ne e.symm), Lib.alloc_old w1 _ b hlt]
    exact hbk
  have d0 : w2.cell? ⟨b, 0, none⟩ = some (.pointer (some ⟨b, 0, none⟩)) := by rw [Lib.cell_of_heap hb2]; rfl
  have d1 : w2.cell? ⟨b, 1, none⟩ = some v := by rw [Lib.cell_of_heap hb2]; rfl
  have f1 : w2.frozen? ⟨b, 1, none⟩ = false := Lib.frozen_of_heap hb2 1
  have hown2 : w2.ownsRow B 5 1 v' (l ++ [c]).length (Lib.byteCells (l ++ [c])) := by
    rw [Lib.byteCells_append]
    have e : (l ++ [c]).length = l.length + 1 := by simp
    rw [e]
    exact hown'
  have hne2 : v'.ownBlock ≠ some b := Lib.ownBlock_ne hown2 hb2 (by decide)
  obtain ⟨ao, n', cap, hv⟩ : ∃ ao n' cap, v' = .slice ao n' cap := by
    rcases hown'.2 with ⟨hv, _⟩ | ⟨g, cap, cur, hv, _⟩
    · exact ⟨_, _, _, hv⟩
    · exact ⟨_, _, _, hv⟩
  subst hv
  go_wp2
  go_ret
  have hs1 := hb1.size
  refine ⟨rfl, .slice ao n' cap, ⟨h.hB, ⟨.pointer (some ⟨b, 0, none⟩), .inr rfl, ?_⟩, ?_⟩, ?_, ?_⟩
  · simp [World.setCell, Array.getElem?_modify, hb2]
  · exact hown2.kept (row := some b) ⟨rfl, rfl, rfl, by simp [World.setCell], fun k _ hk => Below.heap_setCell _ _ _ _ (fun e => hk (by simp [e]))⟩ (Or.inr hne2)
  · exact ((hb1.alloc (by omega) _).grown hgrow (by simp; omega) (fun k hk => (h1.own.lt k hk).1)).setCell (p := ⟨b, 1, none⟩) h.hB _
  · intro k o hk hne hnv
    rw [Below.heap_setCell _ _ _ _ (fun e => hne e)]
    have h3 := hk1 k o hk hne hnv
    have hl3 := (Array.getElem?_eq_some_iff.1 h3).1
    rw [hgrow.block k (by simp; omega) hnv, Lib.alloc_old w1 _ k hl3]
    exact h3
/-- String of such a builder -/
theorem string (B b : Nat) (v : Value) (l : List UInt8) (w : World) (h : Is B b v l w) (hBw : B ≤ w.heap.size) :
    Calls Tryd.prog 59 #[.pointer (some ⟨b, 0, none⟩)] w fun e w' => e = .returned (.string ⟨l.toArray⟩) ∧ Below B w w' :=
  Tryd.Builder_String_any B b l w h.builder hBw
end Go.Proofs.YtfaelejeihmgcaaDoor.Bld
end

section
namespace Go.Proofs.YtfaelejeihmgcaaDoor
open Go.RowKit
/-- The tables of unicode/utf8, as_ a walk needs them. -/
structure Tabs (w : World) : Prop where
  u : Lib.Utf8Tabs 2 3 w
theorem Tabs.below {w w1 : World} (h : Tabs w) (hb : Below w.heap.size w w1) : Tabs w1 := by
  obtain ⟨h1, h2⟩ := h.u
  have k : ∀ a v, w.cell? a = some v → w1.cell? a = some v := fun a v h => (hb.cell (World.block_lt_of_cell? w a h)).trans h
  exact ⟨⟨fun c hc => k _ _ (h1 c hc), fun i hi => ⟨k _ _ (h2 i hi).1, k _ _ (h2 i hi).2⟩⟩⟩
end Go.Proofs.YtfaelejeihmgcaaDoor
end

section
namespace Go.Proofs.YtfaelejeihmgcaaDoor.Wd
open Go.RowKit Go.Proofs.YtfaelejeihmgcaaDoorW.PrintWords Go.Proofs.YtfaelejeihmgcaaDoorW.PrintLast Go.Proofs.YtfaelejeihmgcaaDoorW.PrintMore
attribute [local go_sem] max2_int min2_int max_two min_two max_three min_three max_four min_four   -- for this text's walks alone
set_option linter.unusedVariables false
set_option linter.unusedSimpArgs false
def errW : Option Int → Value
  | none => .nilIface
  | some c => .iface 0 (.int .i64 c)
theorem errW_none : errW none = .nilIface := rfl
theorem errW_some (c : Int) : errW (some c) = .iface 0 (.int .i64 c) := rfl
theorem info5 : (Tryd.prog.info? 5).map (fun i => (i.zero, i.size, i.bytes)) = some (some (.int .u8 0), 1, 1) := by kernel_rfl
theorem info9 : (Tryd.prog.info? 9).map (fun i => (i.zero, i.size, i.bytes)) = some (some (.string ⟨#[]⟩), 1, 16) := by kernel_rfl
end Go.Proofs.YtfaelejeihmgcaaDoor.Wd
end

section
namespace Go.Proofs.YtfaelejeihmgcaaDoor.Wd
open Go.RowKit Go.Proofs.YtfaelejeihmgcaaDoorW.PrintWords Go.Proofs.YtfaelejeihmgcaaDoorW.PrintLast
def joinB (l : List ByteArray) (sep : ByteArray) : List UInt8 := Lib.join (l.map (·.data.toList)) sep.data.toList
def strings_Join.f (l0 : List ByteArray) (a1 : ByteArray) : Option ByteArray :=
  if l0.length ≤ 1099511627776 ∧ (joinB l0 a1).length ≤ 1099511627776 then some ⟨(joinB l0 a1).toArray⟩ else none
theorem add_zero' (ad : Addr) : ad.add 0 = ad := by simp [Addr.add]
theorem strings_Join.calls (A0 : Option Addr) (c0 : Nat) (l0 : List ByteArray) (a1 : ByteArray) (r : ByteArray) (w : World) (hr0 : Kd.C Kd.string w A0 l0.length l0) (hc0 : l0.length ≤ c0) (h : strings_Join.f l0 a1 = some r) :
    Calls Tryd.prog 62 #[.slice A0 l0.length c0, .string a1] w fun e w' => e = .returned (.string r) ∧ Below w.heap.size w w' := by
  unfold strings_Join.f at h
  split at h
  · rename_i hb
    obtain rfl := Option.some.inj h
    have hr := Kd.reads_of_C (d := ByteArray.empty) hr0
    cases l0 with
    | nil =>
      refine (Tryd.strings_Join_none A0 c0 a1 w).mono ?_
      rintro e w' ⟨rfl, rfl⟩
      exact ⟨rfl, Below.refl _ _⟩
    | cons x l =>
      obtain ⟨ad, rfl, hc⟩ := hr.2.2 (by simp)
      obtain ⟨bk, o, rfl⟩ : ∃ bk o, ad = ⟨bk, o, none⟩ := by
        have h0 := hc 0 (by simp)
        rw [add_zero'] at h0
        obtain ⟨bk, o, p⟩ := ad
        cases p with
        | none => exact ⟨bk, o, rfl⟩
        | some p =>
          simp [World.cell?] at h0
          split at h0 <;> cases h0
      have hcells : ∀ (j : Nat) y, (x :: l)[j]? = some y → w.cell? ⟨bk, o + j, none⟩ = some (.string y) := by
        intro j y hj
        have hlt : j < (x :: l).length := by
          rcases Nat.lt_or_ge j (x :: l).length with h | h
          · exact h
          · rw [List.getElem?_eq_none h] at hj; cases hj
        have h1 := hc j hlt
        have e : (⟨bk, o, none⟩ : Addr).add j = ⟨bk, o + j, none⟩ := by
          unfold Addr.add
          split
          · rename_i hj0; simp_all
          · rfl
        rw [e] at h1
        rw [h1, List.getD_eq_getElem?_getD, hj]
        rfl
      refine (Tryd.strings_Join bk o c0 (x :: l) a1 w hcells ?_ (by omega) hc0 (by have := hb.2; unfold joinB at this; omega)).mono ?_
      · have := hcells 0 x rfl
        exact World.block_lt_of_cell? w _ this
      · rintro e w' ⟨rfl, h2⟩
        exact ⟨rfl, h2⟩
  · cases h
end Go.Proofs.YtfaelejeihmgcaaDoor.Wd
end

section
namespace Go.Proofs.YtfaelejeihmgcaaDoor.Wd
open Go.RowKit Go.Proofs.YtfaelejeihmgcaaDoorW.PrintWords Go.Proofs.YtfaelejeihmgcaaDoorW.PrintLast
def hex1 (c : UInt8) : List UInt8 := [hexD (c.toNat / 16), hexD (c.toNat % 16)]
def hexB (s : ByteArray) : List UInt8 := if s.size = 0 then [45] else s.data.toList.flatMap hex1
def cachepotref3_Hex.f (a0 : ByteArray) : Option ByteArray := if a0.size ≤ 1099511627776 then some ⟨(hexB a0).toArray⟩ else none
theorem ret_strF {a b : ByteArray} (h : a = b) : Ending.returned (.string a) = .returned (.string b) := by rw [h]
theorem hex1s_length (l : List UInt8) : (l.flatMap hex1).length = 2 * l.length := by
  induction l with
  | nil => rfl
  | cons c l ih => rw [List.flatMap_cons, List.length_append, ih]; simp [hex1]; omega
abbrev DIGF : ByteArray := ⟨#[48, 49, 50, 51, 52, 53, 54, 55, 56, 57, 97, 98, 99, 100, 101, 102]⟩
theorem digF_at : ∀ h : Fin 16, DIGF[h.val]? = some (hexD h.val) := by decide
theorem index_dig (n : Nat) (hn : n < 16) (x : Int) (hx : x = n) (W : World) : (Instr.index 9 (.string DIGF) (.int .u8 x)).run Tryd.prog W = .ok (.int .u8 ((hexD n).toNat : Int)) W := by
  subst hx
  have h1 : (0 : Int) ≤ (n : Int) ∧ (n : Int) < (DIGF.size : Int) := ⟨by omega, by show (n : Int) < (16 : Nat); omega⟩
  have e := digF_at ⟨n, hn⟩
  have h2 : n < DIGF.size := hn
  rw [getElem?_pos DIGF n h2] at e
  have e3 : DIGF[n] = hexD n := Option.some.inj e
  rw [run_index_string W 9 DIGF .u8 (n : Int) Tryd.underlying9, dif_pos h1]
  have e2 : ((n : Nat) : Int).toNat = n := by omega
  simp only [e2, e3]
end Go.Proofs.YtfaelejeihmgcaaDoor.Wd
end

section
namespace Go.Proofs.YtfaelejeihmgcaaDoor.Lgx
open Go.RowKit Go.Sort Go.Proofs.YtfaelejeihmgcaaDoorW.PrintWords Go.Proofs.YtfaelejeihmgcaaDoorW.PrintLast
abbrev strings_Join.f (l0 : List ByteArray) (a1 : ByteArray) : Option ByteArray := Wd.strings_Join.f l0 a1
theorem strings_Join.calls (A0 : Option Addr) (c0 : Nat) (l0 : List ByteArray) (a1 : ByteArray) (r : ByteArray) (w : World) (hr0 : Kd.C Kd.string w A0 l0.length l0) (hc0 : l0.length ≤ c0) (h : strings_Join.f l0 a1 = some r) :
    Calls Tryd.prog 62 #[.slice A0 l0.length c0, .string a1] w fun e w' => e = .returned (.string r) ∧ Below w.heap.size w w' := Wd.strings_Join.calls A0 c0 l0 a1 r w hr0 hc0 h
abbrev cachepotref3_Hex.f (a0 : ByteArray) : Option ByteArray := Wd.cachepotref3_Hex.f a0
def ledger_hex.f (a0 : ByteArray) : Option ByteArray := if a0.size ≤ 1099511627776 then some ⟨(Wd.hexB a0).toArray⟩ else none
set_option maxHeartbeats 4000000 in
set_option maxRecDepth 100000 in
theorem ledger_hex.calls (a0 : ByteArray) (r : ByteArray) (w : World) (h : ledger_hex.f a0 = some r) :
    Calls Tryd.prog 65 #[.string a0] w fun e w' => e = .returned (.string r) ∧ Below w.heap.size w w' := by
  have hs : a0.size ≤ 1099511627776 := by
    unfold ledger_hex.f at h
    split at h
    · assumption
    · cases h
  have hr : Aside0 (⟨(Wd.hexB a0).toArray⟩ = r) := ⟨by unfold ledger_hex.f at h; rw [if_pos hs] at h; exact Option.some.inj h⟩
  clear h
  by_cases h0 : a0.size = 0
  · have e0 : (a0.toList == ([] : List UInt8)) = true := by
      rw [Lib.toList_data, beq_iff_eq, ← List.length_eq_zero_iff, ← Lib.size_eq]; exact h0
    have e1 : a0.toList.isEmpty = true := by
      rw [Lib.toList_data, List.isEmpty_iff, ← List.length_eq_zero_iff, ← Lib.size_eq]; exact h0
    have H0 := Lib.hid h0
    clear h0
    go_enter Tryd.func65, Tryd.ntmps65
    go_wp2
    go_ret
    exact ⟨Wd.ret_strF (by rw [← hr.out, Wd.hexB, if_pos H0.out]), Below.refl _ _⟩
  · have e1 : a0.toList.isEmpty = false := by
      rw [Lib.toList_data]
      rw [Lib.size_eq] at h0
      cases hl : a0.data.toList with
      | nil => rw [hl] at h0; simp at h0
      | cons => rfl
    have hF := Bld.Is.fresh w
    go_enter Tryd.func65, Tryd.ntmps65
    go_wp2
    go_loopw [9] (fun i wr => ∃ (k : Nat) (v : Value), k ≤ a0.size ∧ i = .int .i64 k ∧ Bld.Is w.heap.size w.heap.size v ((a0.data.toList.take k).flatMap Wd.hex1) wr ∧ Below w.heap.size w wr) (fun i _ => a0.size - (intOf i).toNat)
    case atStart => exact ⟨0, _, Nat.zero_le _, rfl, hF, below_alloc (Below.refl _ _) _⟩
    case round =>
      clear hF
      obtain ⟨k, v, hk, rfl, hI, hbw⟩ := hrel
      by_cases hlt : k < a0.size
      · have hc255 := a0[k].toNat_lt
        have ix1 : ∀ W : World, (Instr.index 9 (.string Wd.DIGF) (.int .u8 (((a0[k].toNat : Nat) : Int) / 16))).run Tryd.prog W = .ok (.int .u8 ((Wd.hexD (a0[k].toNat / 16)).toNat : Int)) W := fun W => Wd.index_dig _ (by omega) _ (by omega) W
        have ix2 : ∀ W : World, (Instr.index 9 (.string Wd.DIGF) (.int .u8 (((a0[k].toNat : Nat) : Int) % 16))).run Tryd.prog W = .ok (.int .u8 ((Wd.hexD (a0[k].toNat % 16)).toNat : Int)) W := fun W => Wd.index_dig _ (by omega) _ (by omega) W
        have hbe := hbw.size
        have hstep : (a0.data.toList.take k).flatMap Wd.hex1 ++ [Wd.hexD (a0[k].toNat / 16)] ++ [Wd.hexD (a0[k].toNat % 16)] = (a0.data.toList.take (k + 1)).flatMap Wd.hex1 := by
          rw [List.take_succ_eq_append_getElem (by rw [← Lib.size_eq]; exact hlt), List.flatMap_append, List.append_assoc]
          congr 1
        have hll : ((a0.data.toList.take k).flatMap Wd.hex1).length ≤ 2199023255552 := by
          rw [Wd.hex1s_length]
          have := List.length_take_le k a0.data.toList
          omega
        have Hstep := Lib.hid hstep
        clear hstep
        have step1 := Bld.writeByte w.heap.size w.heap.size v _ (Wd.hexD (a0[k].toNat / 16)) wr hI (by omega) hbe
        have hl2 : ((a0.data.toList.take k).flatMap Wd.hex1 ++ [Wd.hexD (a0[k].toNat / 16)]).length + 1 ≤ 140737488355328 := by
          rw [List.length_append, List.length_singleton]; omega
        have step2 := fun w2 v2 hI2 hbe3 => Bld.writeByte w.heap.size w.heap.size v2 _ (Wd.hexD (a0[k].toNat % 16)) w2 hI2 hl2 hbe3
        clear hll hl2
        go_wp2_with fail
        refine step1.mono ?_
        rintro e w2 ⟨rfl, v2, hI2, hb2, _⟩
        have hb3 := hbw.trans hb2
        have hbe3 := hb3.size
        go_wp2_with fail
        refine (step2 w2 v2 hI2 hbe3).mono ?_
        rintro e w4 ⟨rfl, v4, hI4, hb4, _⟩
        rw [Hstep.out] at hI4
        go_wp2
        go_roundw
        case rel => exact ⟨k + 1, v4, hlt, by simp, hI4, hb3.trans hb4⟩
        case measure => simp [intOf]; omega
      · have hke : k = a0.size := by omega
        subst hke
        have hend : (⟨((a0.data.toList.take a0.size).flatMap Wd.hex1).toArray⟩ : ByteArray) = ⟨(Wd.hexB a0).toArray⟩ := by
          rw [Wd.hexB, if_neg h0, List.take_of_length_le (by rw [← Lib.size_eq]; exact Nat.le_refl _)]
        have Hend := Lib.hid hend
        clear hend
        go_wp2_with fail
        refine (Bld.string w.heap.size w.heap.size v _ wr hI hbw.size).mono ?_
        rintro e w2 ⟨rfl, hb2⟩
        go_wp2
        go_ret
        exact ⟨Wd.ret_strF (Hend.out.trans hr.out), hbw.trans hb2⟩
/-- a number's digits -/
def decB (v : Int) : ByteArray := ⟨(Lib.decDigits v.toNat).toArray⟩
def ledger_decimal.f (a0 : Int) : Option ByteArray := if 0 ≤ a0 ∧ a0 ≤ 4294967295 then some (decB a0) else none
end Go.Proofs.YtfaelejeihmgcaaDoor.Lgx
end

section
namespace Go.Proofs.YtfaelejeihmgcaaDoor.Lgx
open Go.RowKit Go.Proofs.YtfaelejeihmgcaaDoorW.PrintWords Go.Proofs.YtfaelejeihmgcaaDoorW.PrintLast Go.Proofs.YtfaelejeihmgcaaDoorW.PrintMore
attribute [local go_sem] max2_int min2_int max_two min_two max_three min_three max_four min_four   -- for this text's walks alone
set_option linter.unusedVariables false
set_option linter.unusedSimpArgs false
mutual
def ledger_Line.l0 : Nat → List ByteArray → List (S101) → Int → Int → Option (ByteArray)
  | 0, _, _, _, _ => none
  | k + 1, x3, x19, x20, x21 => if x21 < x20 then (if 0 ≤ x21 then (if x21 < (x19.length : Int) then (if (rd_T101 x19 x21).f1 = true then ((ledger_hex.f ((rd_T101 x19 x21).f0)).bind fun t109 => (if t109.size + 1 ≤ 9223372036854775807 then (if x3.length < 8796093022208 then (ledger_Line.l0 k (x3 ++ [t109 ++ (⟨#[33]⟩ : ByteArray)]) x19 x20 (wrap64 (x21 + 1))) else (none)) else (none))) else ((ledger_hex.f ((rd_T101 x19 x21).f0)).bind fun t113 => (if t113.size + 1 ≤ 9223372036854775807 then ((ledger_hex.f ((rd_T101 x19 x21).f2)).bind fun t114 => (if (t113 ++ (⟨#[61]⟩ : ByteArray)).size + t114.size ≤ 9223372036854775807 then (if x3.length < 8796093022208 then (ledger_Line.l0 k (x3 ++ [(t113 ++ (⟨#[61]⟩ : ByteArray)) ++ t114]) x19 x20 (wrap64 (x21 + 1))) else (none)) else (none))) else (none)))) else (none)) else (none)) else ((strings_Join.f x3 (⟨#[32]⟩ : ByteArray)).bind fun t106 => (some t106))
def ledger_Line.l1 : Nat → List ByteArray → List (S98) → Int → Int → Option (ByteArray)
  | 0, _, _, _, _ => none
  | k + 1, x3, x50, x51, x52 => if x52 < x51 then (if 0 ≤ x52 then (if x52 < (x50.length : Int) then (if (rd_T98 x50 x52).f1 = true then ((ledger_hex.f ((rd_T98 x50 x52).f0)).bind fun t124 => (if t124.size + 1 ≤ 9223372036854775807 then ((ledger_hex.f ((rd_T98 x50 x52).f2)).bind fun t125 => (if (t124 ++ (⟨#[61]⟩ : ByteArray)).size + t125.size ≤ 9223372036854775807 then (if ((t124 ++ (⟨#[61]⟩ : ByteArray)) ++ t125).size + 1 ≤ 9223372036854775807 then ((ledger_decimal.f ((rd_T98 x50 x52).f3)).bind fun t126 => (if (((t124 ++ (⟨#[61]⟩ : ByteArray)) ++ t125) ++ (⟨#[64]⟩ : ByteArray)).size + t126.size ≤ 9223372036854775807 then (if x3.length < 8796093022208 then (ledger_Line.l1 k (x3 ++ [(((t124 ++ (⟨#[61]⟩ : ByteArray)) ++ t125) ++ (⟨#[64]⟩ : ByteArray)) ++ t126]) x50 x51 (wrap64 (x52 + 1))) else (none)) else (none))) else (none)) else (none))) else (none))) else ((ledger_hex.f ((rd_T98 x50 x52).f0)).bind fun t130 => (if t130.size + 1 ≤ 9223372036854775807 then (if x3.length < 8796093022208 then (ledger_Line.l1 k (x3 ++ [t130 ++ (⟨#[63]⟩ : ByteArray)]) x50 x51 (wrap64 (x52 + 1))) else (none)) else (none)))) else (none)) else (none)) else ((strings_Join.f x3 (⟨#[32]⟩ : ByteArray)).bind fun t121 => (some t121))
def ledger_Line.l2 : Nat → List ByteArray → List ByteArray → Int → Int → Option (ByteArray)
  | 0, _, _, _, _ => none
  | k + 1, x3, x86, x87, x88 => if x88 < x87 then (if 0 ≤ x88 then (if x88 < (x86.length : Int) then ((ledger_hex.f (rdOf ByteArray.empty x86 x88)).bind fun t138 => (if x3.length < 8796093022208 then (ledger_Line.l2 k (x3 ++ [t138]) x86 x87 (wrap64 (x88 + 1))) else (none))) else (none)) else (none)) else ((strings_Join.f x3 (⟨#[32]⟩ : ByteArray)).bind fun t142 => (some t142))
end
def ledger_Line.f (k : Nat) (a0_0 : Int) (a0_1 : Int) (l0_2 : List (S101)) (l0_3 : List (S98)) (l0_4 : List ByteArray) : Option (ByteArray) := if a0_0 = 1 then ((ledger_decimal.f a0_1).bind fun t102 => (ledger_Line.l0 k (([(⟨#[99, 111, 109, 109, 105, 116]⟩ : ByteArray), t102] : List ByteArray)) l0_2 (l0_2.length : Int) 0)) else (if a0_0 = 2 then (ledger_Line.l1 k (([(⟨#[103, 111, 116]⟩ : ByteArray)] : List ByteArray)) l0_3 (l0_3.length : Int) 0) else (if a0_0 = 3 then (ledger_Line.l2 k (([(⟨#[102, 111, 114, 103, 111, 116]⟩ : ByteArray)] : List ByteArray)) l0_4 (l0_4.length : Int) 0) else ((strings_Join.f ([] : List ByteArray) (⟨#[32]⟩ : ByteArray)).bind fun t143 => (some t143))))
end Go.Proofs.YtfaelejeihmgcaaDoor.Lgx
end

section
namespace Go.Proofs.YtfaelejeihmgcaaDoor.Lgx
open Go.RowKit Go.Proofs.YtfaelejeihmgcaaDoorW.PrintWords Go.Proofs.YtfaelejeihmgcaaDoorW.PrintLast Go.Proofs.YtfaelejeihmgcaaDoorW.PrintMore
attribute [local go_sem] max2_int min2_int max_two min_two max_three min_three max_four min_four   -- for this text's walks alone
set_option linter.unusedVariables false
set_option linter.unusedSimpArgs false
mutual
def cachepotref3_Line.l0 : Nat → ByteArray → Int → Int → Int → List (S101) → List (S98) → List ByteArray → Option (ByteArray)
  | 0, _, _, _, _, _, _, _ => none
  | k + 1, x3, x4, x159000, x159001, x159002, x159003, x159004 => if x4 < (x159002.length : Int) then (if 0 ≤ x4 then (if (rd_T101 x159002 x4).f1 = true then ((cachepotref3_Hex.f ((rd_T101 x159002 x4).f0)).bind fun t162 => (if 1 + t162.size ≤ 9223372036854775807 then (if ((⟨#[32]⟩ : ByteArray) ++ t162).size + 1 ≤ 9223372036854775807 then (if x3.size + (((⟨#[32]⟩ : ByteArray) ++ t162) ++ (⟨#[33]⟩ : ByteArray)).size ≤ 9223372036854775807 then (cachepotref3_Line.l0 k (x3 ++ (((⟨#[32]⟩ : ByteArray) ++ t162) ++ (⟨#[33]⟩ : ByteArray))) (wrap64 (x4 + 1)) x159000 x159001 x159002 x159003 x159004) else (none)) else (none)) else (none))) else ((cachepotref3_Hex.f ((rd_T101 x159002 x4).f0)).bind fun t164 => (if 1 + t164.size ≤ 9223372036854775807 then (if ((⟨#[32]⟩ : ByteArray) ++ t164).size + 1 ≤ 9223372036854775807 then ((cachepotref3_Hex.f ((rd_T101 x159002 x4).f2)).bind fun t166 => (if (((⟨#[32]⟩ : ByteArray) ++ t164) ++ (⟨#[61]⟩ : ByteArray)).size + t166.size ≤ 9223372036854775807 then (if x3.size + ((((⟨#[32]⟩ : ByteArray) ++ t164) ++ (⟨#[61]⟩ : ByteArray)) ++ t166).size ≤ 9223372036854775807 then (cachepotref3_Line.l0 k (x3 ++ ((((⟨#[32]⟩ : ByteArray) ++ t164) ++ (⟨#[61]⟩ : ByteArray)) ++ t166)) (wrap64 (x4 + 1)) x159000 x159001 x159002 x159003 x159004) else (none)) else (none))) else (none)) else (none)))) else (none)) else (some x3)
def cachepotref3_Line.l1 : Nat → ByteArray → Int → Int → Int → List (S101) → List (S98) → List ByteArray → Option (ByteArray)
  | 0, _, _, _, _, _, _, _ => none
  | k + 1, x3, x5, x159000, x159001, x159002, x159003, x159004 => if x5 < (x159003.length : Int) then (if 0 ≤ x5 then (if (rd_T98 x159003 x5).f1 = true then ((cachepotref3_Hex.f ((rd_T98 x159003 x5).f0)).bind fun t169 => (if 1 + t169.size ≤ 9223372036854775807 then (if ((⟨#[32]⟩ : ByteArray) ++ t169).size + 1 ≤ 9223372036854775807 then ((cachepotref3_Hex.f ((rd_T98 x159003 x5).f2)).bind fun t171 => (if (((⟨#[32]⟩ : ByteArray) ++ t169) ++ (⟨#[61]⟩ : ByteArray)).size + t171.size ≤ 9223372036854775807 then (if ((((⟨#[32]⟩ : ByteArray) ++ t169) ++ (⟨#[61]⟩ : ByteArray)) ++ t171).size + 1 ≤ 9223372036854775807 then ((cachepotref3_Digits.f k (wrap64 ((rd_T98 x159003 x5).f3))).bind fun t173 => (if (((((⟨#[32]⟩ : ByteArray) ++ t169) ++ (⟨#[61]⟩ : ByteArray)) ++ t171) ++ (⟨#[64]⟩ : ByteArray)).size + t173.size ≤ 9223372036854775807 then (if x3.size + ((((((⟨#[32]⟩ : ByteArray) ++ t169) ++ (⟨#[61]⟩ : ByteArray)) ++ t171) ++ (⟨#[64]⟩ : ByteArray)) ++ t173).size ≤ 9223372036854775807 then (cachepotref3_Line.l1 k (x3 ++ ((((((⟨#[32]⟩ : ByteArray) ++ t169) ++ (⟨#[61]⟩ : ByteArray)) ++ t171) ++ (⟨#[64]⟩ : ByteArray)) ++ t173)) (wrap64 (x5 + 1)) x159000 x159001 x159002 x159003 x159004) else (none)) else (none))) else (none)) else (none))) else (none)) else (none))) else ((cachepotref3_Hex.f ((rd_T98 x159003 x5).f0)).bind fun t175 => (if 1 + t175.size ≤ 9223372036854775807 then (if ((⟨#[32]⟩ : ByteArray) ++ t175).size + 1 ≤ 9223372036854775807 then (if x3.size + (((⟨#[32]⟩ : ByteArray) ++ t175) ++ (⟨#[63]⟩ : ByteArray)).size ≤ 9223372036854775807 then (cachepotref3_Line.l1 k (x3 ++ (((⟨#[32]⟩ : ByteArray) ++ t175) ++ (⟨#[63]⟩ : ByteArray))) (wrap64 (x5 + 1)) x159000 x159001 x159002 x159003 x159004) else (none)) else (none)) else (none)))) else (none)) else (some x3)
def cachepotref3_Line.l2 : Nat → ByteArray → Int → Int → Int → List (S101) → List (S98) → List ByteArray → Option (ByteArray)
  | 0, _, _, _, _, _, _, _ => none
  | k + 1, x3, x6, x159000, x159001, x159002, x159003, x159004 => if x6 < (x159004.length : Int) then (if 0 ≤ x6 then ((cachepotref3_Hex.f (rdOf ByteArray.empty x159004 x6)).bind fun t177 => (if 1 + t177.size ≤ 9223372036854775807 then (if x3.size + ((⟨#[32]⟩ : ByteArray) ++ t177).size ≤ 9223372036854775807 then (cachepotref3_Line.l2 k (x3 ++ ((⟨#[32]⟩ : ByteArray) ++ t177)) (wrap64 (x6 + 1)) x159000 x159001 x159002 x159003 x159004) else (none)) else (none))) else (none)) else (some x3)
end
def cachepotref3_Line.f (k : Nat) (a0_0 : Int) (a0_1 : Int) (l0_2 : List (S101)) (l0_3 : List (S98)) (l0_4 : List ByteArray) : Option (ByteArray) := if a0_0 = 1 then ((cachepotref3_Digits.f k (wrap64 (a0_1))).bind fun t159 => (if 7 + t159.size ≤ 9223372036854775807 then (cachepotref3_Line.l0 k ((⟨#[99, 111, 109, 109, 105, 116, 32]⟩ : ByteArray) ++ t159) 0 a0_0 a0_1 l0_2 l0_3 l0_4) else (none))) else (if a0_0 = 2 then (cachepotref3_Line.l1 k (⟨#[103, 111, 116]⟩ : ByteArray) 0 a0_0 a0_1 l0_2 l0_3 l0_4) else (if a0_0 = 3 then (cachepotref3_Line.l2 k (⟨#[102, 111, 114, 103, 111, 116]⟩ : ByteArray) 0 a0_0 a0_1 l0_2 l0_3 l0_4) else (some (⟨#[]⟩ : ByteArray))))
end Go.Proofs.YtfaelejeihmgcaaDoor.Lgx
end

section
namespace Go.Proofs.YtfaelejeihmgcaaDoor.Lgx
open Go.RowKit Go.Proofs.YtfaelejeihmgcaaDoorW.PrintWords Go.Proofs.YtfaelejeihmgcaaDoorW.PrintLast
open Rn (aheadB ahead_f)
def placeK (key : ByteArray) (out : List ByteArray) : Nat := (out.takeWhile fun y => aheadB y key).length
def hitK (key : ByteArray) (out : List ByteArray) : Bool := match out[placeK key out]? with | some y => y.toList == key.toList | none => false
def sort1 (out : List ByteArray) (key : ByteArray) : List ByteArray := if hitK key out = true then out else out.take (placeK key out) ++ [key] ++ out.drop (placeK key out)
def sortedF (l : List ByteArray) : List ByteArray := l.foldl sort1 []
theorem sortedF_snoc (l : List ByteArray) (x : ByteArray) : sortedF (l ++ [x]) = sort1 (sortedF l) x := by simp [sortedF, List.foldl_append]
def shortK (l : List ByteArray) : Bool := decide (l.length ≤ 1048576) && l.all fun s => decide (s.size ≤ 1099511627776)
def cachepotref1_KeysSorted.f (l0 : List ByteArray) : Option (List ByteArray) := if shortK l0 = true then some (sortedF l0) else none
theorem placeK_le (key : ByteArray) (out : List ByteArray) : placeK key out ≤ out.length := (List.takeWhile_sublist _).length_le
theorem sort1_len (out : List ByteArray) (key : ByteArray) : (sort1 out key).length ≤ out.length + 1 := by
  have := placeK_le key out
  unfold sort1
  split
  · omega
  · simp; omega
theorem foldl_len : ∀ (l out : List ByteArray), (l.foldl sort1 out).length ≤ out.length + l.length
  | [], out => Nat.le_refl _
  | x :: l, out => by have := foldl_len l (sort1 out x); have := sort1_len out x; simp [List.foldl_cons]; omega
theorem sortedF_len (l : List ByteArray) : (sortedF l).length ≤ l.length := by have := foldl_len l []; simpa [sortedF] using this
theorem sort1_mem {out : List ByteArray} {key y : ByteArray} (h : y ∈ sort1 out key) : y ∈ out ∨ y = key := by
  unfold sort1 at h
  split at h
  · exact .inl h
  · rw [List.mem_append, List.mem_append, List.mem_singleton] at h
    rcases h with (h | h) | h
    · exact .inl (List.mem_of_mem_take h)
    · exact .inr h
    · exact .inl (List.mem_of_mem_drop h)
theorem foldl_mem : ∀ (l out : List ByteArray) {y : ByteArray}, y ∈ l.foldl sort1 out → y ∈ out ∨ y ∈ l
  | [], out, y, h => .inl h
  | x :: l, out, y, h => by
    rcases foldl_mem l (sort1 out x) h with h | h
    · rcases sort1_mem h with h | h
      · exact .inl h
      · exact .inr (by simp [h])
    · exact .inr (by simp [h])
theorem sortedF_mem {l : List ByteArray} {y : ByteArray} (h : y ∈ sortedF l) : y ∈ l := by
  rcases foldl_mem l [] h with h | h
  · simp at h
  · exact h
theorem placeK_go (key : ByteArray) : ∀ (out : List ByteArray) (j : Nat), (∀ i (h : i < out.length), i < j → aheadB out[i] key = true) → j ≤ out.length → (j = out.length ∨ ∃ h : j < out.length, aheadB out[j] key = false) → placeK key out = j
  | [], j, _, hj, _ => by
    have : j = 0 := by simpa using hj
    subst this
    rfl
  | y :: out, 0, _, _, h => by
    rcases h with h | ⟨_, h⟩
    · simp at h
    · simp only [List.getElem_cons_zero] at h
      simp [placeK, h]
  | y :: out, j + 1, ha, hj, h => by
    have h0 := ha 0 (by simp) (by omega)
    simp only [List.getElem_cons_zero] at h0
    have ih := placeK_go key out j (fun i hi hij => by have := ha (i + 1) (by simp; omega) (by omega); simpa using this) (by simpa using hj) (by
      rcases h with h | ⟨h1, h2⟩
      · left; simpa using h
      · right; exact ⟨by simpa using h1, by simpa using h2⟩)
    unfold placeK at ih ⊢
    rw [List.takeWhile_cons, h0]
    simp [ih]
theorem hitK_no {key : ByteArray} {out : List ByteArray} {j : Nat} (hp : placeK key out = j) (h : ¬ ∃ h : j < out.length, out[j].toList = key.toList) : hitK key out = false := by
  unfold hitK
  rw [hp]
  by_cases hj : j < out.length
  · rw [List.getElem?_eq_getElem hj]
    simp only [beq_eq_false_iff_ne]
    exact fun e => h ⟨hj, e⟩
  · rw [List.getElem?_eq_none (by omega)]
theorem hitK_yes {key : ByteArray} {out : List ByteArray} {j : Nat} (hp : placeK key out = j) (hj : j < out.length) (h : out[j].toList = key.toList) : hitK key out = true := by
  unfold hitK
  rw [hp, List.getElem?_eq_getElem hj]
  simpa using h
theorem slice_headS (A : Option Addr) (n c j : Nat) (hj : j ≤ n) (hc : n ≤ c) (W : World) : (Instr.slice 22 (.slice A n c) none (some (.int .i64 (j : Int))) none).run Tryd.prog W = .ok (.slice A j c) W := by
  rw [run_slice_h W 22 A n c (by kernel_rfl) .i64 (j : Int) (by omega) (by omega)]
  go_simp
theorem slice_tailS (A : Option Addr) (n c j : Nat) (hj : j ≤ n) (W : World) : (Instr.slice 22 (.slice A n c) (some (.int .i64 (j : Int))) none none).run Tryd.prog W = .ok (.slice (if c = j then A else A.map (·.add j)) (n - j) (c - j)) W := by
  rw [run_slice_l W 22 A n c (by kernel_rfl) .i64 (j : Int) (by omega) (by omega)]
  go_simp
theorem le16 {j n : Nat} (hj : j ≤ n) (hn : n ≤ 1048576) : (([] : List ByteArray).length + j) * 16 ≤ 140737488355328 := by
  simp only [List.length_nil]
  omega
theorem le16b {j n m : Nat} (he : m = j) (hj : j ≤ n) (hn : n ≤ 1048576) : (m + 1) * 16 ≤ 140737488355328 := by omega
theorem le16c {j n : Nat} {l : List ByteArray} {x : ByteArray} (he : l.length = j) (hj : j ≤ n) (hn : n ≤ 1048576) : ((l ++ [x]).length + (n - j)) * 16 ≤ 140737488355328 := by
  rw [List.length_append, List.length_singleton]
  omega
theorem lenS_b {l : List ByteArray} {x : ByteArray} {j : Nat} (h : l.length = j) : (l ++ [x]).length = j + 1 := by rw [List.length_append, h, List.length_singleton]
theorem lenS_c {R : List ByteArray} {x : ByteArray} {j : Nat} (h : (R.take j).length = j) (hj : j ≤ R.length) : (R.take j ++ [x] ++ R.drop j).length = R.length + 1 := by
  rw [List.length_append, List.length_append, h, List.length_singleton, List.length_drop]
  omega
theorem litS_reads {W w5 : World} {g : Nat} (x : ByteArray) (h : W.heap[g]? = some (.cells #[.string x] 9 (0, 0))) : ReadsRow (Kd.string.K w5) 1 W (some ⟨g, 0, none⟩) 1 [x] := by
  refine ⟨rfl, by decide, fun _ => ⟨_, rfl, fun j p hj => ?_⟩⟩
  match j, hj with
  | 0, hj =>
    simp only [List.getElem?_cons_zero, Option.some.injEq] at hj
    subst hj
    refine ⟨[.string x], rfl, rfl, fun i u hu => ?_⟩
    rw [Addr.add_mid, Nat.zero_mul, Nat.zero_add, Nat.zero_add, Lib.cell_of_heap h i]
    simpa using hu
set_option maxHeartbeats 16000000 in
set_option maxRecDepth 100000 in
theorem cachepotref1_KeysSorted.calls (A0 : Option Addr) (c0 : Nat) (l0 : List ByteArray) (r : List ByteArray) (w : World) (hr0 : Kd.C Kd.string w A0 l0.length l0) (hc0 : l0.length ≤ c0) (h : cachepotref1_KeysSorted.f l0 = some r) :
    Calls Tryd.prog 130 #[.slice A0 l0.length c0] w fun e w' => ∃ v0_ : Value, e = .returned (v0_) ∧ Kd.R Kd.string 9 w' w.heap.size (fun _ => True) v0_ r ∧ Below w.heap.size w w' := by
  have hsh : l0.length ≤ 1048576 ∧ ∀ s ∈ l0, s.size ≤ 1099511627776 := by
    unfold cachepotref1_KeysSorted.f at h
    split at h
    · rename_i hb
      unfold shortK at hb
      simp only [Bool.and_eq_true, decide_eq_true_eq, List.all_eq_true] at hb
      exact hb
    · cases h
  have hq : sortedF l0 = r := by
    unfold cachepotref1_KeysSorted.f at h
    split at h
    · exact Option.some.inj h
    · cases h
  obtain ⟨hlen, hss⟩ := hsh
  have HC0 := Lib.hid hc0
  have Hq := Lib.hid hq
  clear h hc0 hq
  go_enter Tryd.func130, Tryd.ntmps130
  go_wp2
  go_loopw [3, 4] (fun v1 i wr => ∃ k : Nat, k ≤ l0.length ∧ i = .int .i64 k ∧ Kd.R Kd.string 9 wr w.heap.size (fun _ => True) v1 (sortedF (l0.take k)) ∧ Below w.heap.size w wr) (fun _ i _ => l0.length - (intOf i).toNat)
  case atStart => exact ⟨0, Nat.zero_le _, rfl, Kd.R_nil _ _ _ _ _, Below.refl _ _⟩
  case round =>
    obtain ⟨k, hkl, rfl, hR, hb⟩ := hrel
    by_cases hlt : k < l0.length
    · obtain ⟨ad, e, x0⟩ := Kd.at_string hr0 k (by omega) (by omega)
      cases e
      rw [rdstr2 hlt] at x0
      have hsx := hss _ (List.getElem_mem hlt)
      have hsn := sortedF_snoc (l0.take k) l0[k]
      rw [← List.take_succ_eq_append_getElem hlt] at hsn
      obtain ⟨xk, hx⟩ : ∃ x, x = l0[k] := ⟨_, rfl⟩
      rw [← hx] at x0 hsx hsn
      clear hx
      simp only [Int.toNat_natCast] at x0
      have zz2 : ∀ W, Below w.heap.size w W → W.cell? (ad.add k) = some (.string xk) := fun W hW => (hW.cell (World.block_lt_of_cell? w _ x0)).trans x0
      have hRl : (sortedF (l0.take k)).length ≤ 1048576 := by
        have h1 := sortedF_len (l0.take k)
        have h2 := List.length_take_le k l0
        omega
      have hsR : ∀ y ∈ sortedF (l0.take k), y.size ≤ 1099511627776 := fun y hy => hss y (List.mem_of_mem_take (sortedF_mem hy))
      generalize sortedF (l0.take k) = R at hR hsn hRl hsR
      obtain ⟨A2, c2, ev2⟩ := Kd.R_slice hR
      subst ev2
      obtain ⟨_, hc2, hC2⟩ := Kd.R_reads' hR
      have Hsn := Lib.hid hsn
      clear hsn x0
      go_wp2
      obtain ⟨w2, rfl⟩ : ∃ w2 : World, w2 = wr := ⟨_, rfl⟩
      go_loopw [5] (fun i wi => ∃ j : Nat, j ≤ R.length ∧ i = .int .i64 j ∧ Hid (∀ i (h : i < R.length), i < j → aheadB R[i] xk = true) ∧ Below w2.heap.size w2 wi) (fun i _ => R.length - (intOf i).toNat)
      case atStart => exact ⟨0, Nat.zero_le _, rfl, Lib.hid (fun i _ hi => absurd hi (Nat.not_lt_zero _)), Below.refl _ _⟩
      case round =>
        obtain ⟨j, hjl, rfl, Hah, hbi⟩ := hrel
        have hbm : Below w.heap.size w wr := below_then hb hb.size hbi
        have x0w := zz2 _ hbm
        by_cases hlj : j < R.length
        · have hCi := Kd.C_below hC2 hbi
          obtain ⟨adv, e, y0⟩ := Kd.at_string hCi j (by omega) (by omega)
          cases e
          rw [rdstr2 hlj] at y0
          simp only [Int.toNat_natCast] at y0
          have hcall := fun W => cachepotref1_Ahead.calls (R[j].size + xk.size + 10) R[j] xk _ W (ahead_f R[j] xk (hsR _ (List.getElem_mem hlj)) hsx)
          obtain ⟨bo, hbo⟩ : ∃ bo, bo = aheadB R[j] xk := ⟨_, rfl⟩
          rw [← hbo] at hcall
          have Hbo := Lib.hid hbo
          clear hbo
          have d1 : decide (j < R.length) = true := decide_eq_true hlj
          have d2 : decide ((j : Int) < (R.length : Int)) = true := decide_eq_true (by omega)
          cases bo
          · go_wp2
            go_still_tail 13, (by kernel_rfl)
            change wpList _ _ _ _ _ wr.drew
            go_wp2_with fail
            refine (hcall _).mono ?_
            rintro e w5 ⟨rfl, hb5⟩
            have hbx : Below w2.heap.size w2 w5 := below_then (below_drew hbi) (below_drew hbi).size hb5
            have hpl : placeK xk R = j := placeK_go xk R j Hah.out hjl (.inr ⟨hlj, Hbo.out.symm⟩)
            have x0x5 := zz2 _ (below_then hb hb.size hbx)
            have y5 := (hb5.cell (World.block_lt_of_cell? wr.drew _ y0)).trans y0
            by_cases hs : R[j].toList = xk.toList
            · have q1 : (R[j].toList == xk.toList) = true := beq_iff_eq.mpr hs
              have hsame : sort1 R xk = R := by rw [sort1, if_pos (hitK_yes hpl hlj hs)]
              rw [hsame] at Hsn
              clear hs hsame hpl
              go_wp2
              go_quiet (fail)
              have hbx6 := pw_below_drewN hbx nq
              have hbw6 : Below w.heap.size w (w5.drewN nq) := below_then hb hb.size hbx6
              have hR6 := Kd.R_below hR hbx6
              go_wp2
              go_roundw
              case rel => exact ⟨k + 1, hlt, by simp, by rw [Hsn.out]; exact hR6, hbw6⟩
              case measure => simp [intOf]; omega
            · have q1 : (R[j].toList == xk.toList) = false := beq_eq_false_iff_ne.mpr hs
              have Hno : Hid (¬ ∃ h : j < R.length, R[j].toList = xk.toList) := Lib.hid (fun ⟨_, e⟩ => hs e)
              clear hs
              go_wp2
              go_quiet (fail)
              have hbx6 := pw_below_drewN hbx nq
              clear hcall Hbo y0 y5 x0x5 d1 d2 Hah hCi hb5 hbx q1
              generalize w5.drewN nq = w6 at hbx6 ⊢
              obtain ⟨w5, rfl⟩ : ∃ w5 : World, w5 = w6 := ⟨_, rfl⟩
              have hbx := hbx6
              clear hbx6
              go_wp2
              have hit0 : sort1 R xk = R.take j ++ [xk] ++ R.drop j := by rw [sort1, if_neg (by rw [hitK_no hpl Hno.out]; decide), hpl]
              have Hit := Lib.hid hit0
              clear hit0 hpl
              have hCx := Kd.C_below hC2 hbx
              have hbw : Below w.heap.size w w5 := below_then hb hb.size hbx
              have x0x := zz2 _ hbw
              have hs1 := slice_headS (some adv) R.length c2 j hjl hc2
              have hs2 := slice_tailS (some adv) R.length c2 j hjl
              have hjt : (R.take j).length = j := by rw [List.length_take]; omega
              have hT1 : ∀ W, Below w5.heap.size w5 W → ReadsRow (Kd.string.K w5) 1 W (some adv) j (R.take j) := fun W hW => by
                have h := Kd.C_below (Kd.C_take hCx hjl) hW
                rw [hjt] at h
                exact h
              have hT2 : ∀ W, Below w5.heap.size w5 W → ReadsRow (Kd.string.K w5) 1 W (if c2 = j then (some adv) else (some adv).map (·.add j)) (R.length - j) (R.drop j) := fun W hW => by
                have h := Kd.C_below (Kd.C_drop hCx hjl hc2) hW
                rw [List.length_drop] at h
                rw [show Kd.string.sz = 1 from rfl, Nat.mul_one] at h
                exact h
              have hKM : ∀ (W : World) (x : ByteArray) (cs : List Value), Kd.string.K w5 x cs → Kd.string.M W w5.heap.size (fun _ => False) x cs := fun W x cs hK => hK
              have Hjt := Lib.hid hjt
              clear hjt
              have zz : ∀ W, Below w5.heap.size w5 W → W.cell? (ad.add k) = some (.string xk) := fun W hW => zz2 W (below_then hbw hbw.size hW)
              go_region_held3 (fun W => W.cell? (ad.add k) = some (.string xk)) (exact zz _ (by first | assumption | exact Below.refl _ _ | exact below_drew (Below.refl _ _) | exact below_drew (by assumption) | exact below_alloc (by assumption) _ | exact below_drew (below_alloc (Below.refl _ _) _) | exact below_alloc (below_drew (Below.refl _ _)) _))
                  (first
                    | (refine Kd.R_append_rows_step Kd.string (Rr := Kd.string.K w5) (w0 := w5) w5.heap.size ?_ (.const (.slice none 0 0)) (.tmp 46) 22 9 (.string ⟨#[]⟩) 16 ?_ Tryd.underlying22 info9 rfl ?_ ?_ (.slice none 0 0) [] (R.take j) (some adv) j c2 (fun _ => True) (fun _ => False) ?_ ?_ (Kd.R_nil _ _ _ _ _) (hT1 _ (by first | assumption | exact Below.refl _ _ | exact below_drew (Below.refl _ _) | exact below_drew (by assumption) | exact below_alloc (by assumption) _ | exact below_drew (below_alloc (Below.refl _ _) _) | exact below_alloc (below_drew (Below.refl _ _)) _)) (hKM _) (fun _ h => h.elim) (fun _ _ => trivial) (by first | assumption | exact Below.refl _ _ | exact below_drew (Below.refl _ _) | exact below_drew (by assumption) | exact below_alloc (by assumption) _ | exact below_drew (below_alloc (Below.refl _ _) _) | exact below_alloc (below_drew (Below.refl _ _)) _) (sz_of (by first | assumption | exact Below.refl _ _ | exact below_drew (Below.refl _ _) | exact below_drew (by assumption) | exact below_alloc (by assumption) _ | exact below_drew (below_alloc (Below.refl _ _) _) | exact below_alloc (below_drew (Below.refl _ _)) _)) (le16 hjl hRl) ?_; (rfl); (rfl); (decide); (decide); (rfl); (rfl); intro vA wA hRA hbA hgA _; rw [List.nil_append] at hRA; obtain ⟨AA, cA, eA⟩ := Kd.R_slice hRA; rw [Hjt.out] at eA; subst eA)
                    | (refine Kd.R_append_step Kd.string (w0 := w5) w5.heap.size ?_ (.tmp 47) (.tmp 52) 22 9 (.string ⟨#[]⟩) 16 ?_ Tryd.underlying22 info9 rfl ?_ ?_ _ (R.take j) xk [.string xk] (fun _ => True) (fun _ => False) ?_ ?_ rfl (fun _ hk => hk.elim) (fun _ _ => trivial) hRA hbA hbA.size (le16b Hjt.out hjl hRl) ?_; (rfl); (rfl); (decide); (decide); (rfl); (first | rfl | (go_simp; done) | (go_simp; rfl)); intro vB wB hRB hbB _ _; obtain ⟨AB, cB, eB⟩ := Kd.R_slice hRB; rw [lenS_b Hjt.out] at eB; subst eB)
                    | (refine Kd.R_append_rows_step Kd.string (Rr := Kd.string.K w5) (w0 := w5) w5.heap.size ?_ (.tmp 47) (.tmp 52) 22 9 (.string ⟨#[]⟩) 16 ?_ Tryd.underlying22 info9 rfl ?_ ?_ _ (R.take j) [xk] (some ⟨w5.heap.size, 0, none⟩) 1 1 (fun _ => True) (fun _ => False) ?_ ?_ hRA (litS_reads (w5 := w5) xk ((hgA.block w5.heap.size (new_lt _ _) nil_own).trans (heap_alloc_new w5 _))) (hKM _) (fun _ h => h.elim) (fun _ _ => trivial) hbA hbA.size (le16b Hjt.out hjl hRl) ?_; (rfl); (rfl); (decide); (decide); (rfl); (rfl); intro vB wB hRB hbB _ _; obtain ⟨AB, cB, eB⟩ := Kd.R_slice hRB; rw [lenS_b Hjt.out] at eB; subst eB)
                    | (refine Kd.R_append_rows_step Kd.string (Rr := Kd.string.K w5) (w0 := w5) w5.heap.size ?_ (.tmp 53) (.tmp 56) 22 9 (.string ⟨#[]⟩) 16 ?_ Tryd.underlying22 info9 rfl ?_ ?_ _ (R.take j ++ [xk]) (R.drop j) _ (R.length - j) (c2 - j) (fun _ => True) (fun _ => False) ?_ ?_ hRB (hT2 _ hbB) (hKM _) (fun _ h => h.elim) (fun _ _ => trivial) hbB hbB.size (le16c Hjt.out hjl hRl) ?_; (rfl); (rfl); (decide); (decide); (rfl); (rfl); intro vC wC hRC hbC _ _; obtain ⟨AC, cC, eC⟩ := Kd.R_slice hRC; rw [lenS_c Hjt.out hjl] at eC; subst eC))
              all_goals (
                rw [← Hit.out, ← Hsn.out] at hRC
                have hRf := Kd.R_lower hRC hbw.size
                have hbf : Below w.heap.size w wC := below_then hbw hbw.size hbC
                clear hRC
                go_wp2
                go_roundw
                case rel => exact ⟨k + 1, hlt, by simp, hRf, hbf⟩
                case measure => simp [intOf]; omega)
          · go_wp2
            go_still_tail 13, (by kernel_rfl)
            change wpList _ _ _ _ _ wr.drew
            go_wp2_with fail
            refine (hcall _).mono ?_
            rintro e w5 ⟨rfl, hb5⟩
            have hbx : Below w2.heap.size w2 w5 := below_then (below_drew hbi) (below_drew hbi).size hb5
            have Hah2 : Hid (∀ i (h : i < R.length), i < j + 1 → aheadB R[i] xk = true) := Lib.hid (fun i hi hij => by
              by_cases e : i = j
              · subst e; exact Hbo.out.symm
              · exact Hah.out i hi (by omega))
            clear hcall Hbo y0 d1 d2 Hah hCi
            go_wp2
            go_roundw
            case rel => exact ⟨j + 1, hlj, by simp, Hah2, hbx⟩
            case measure => simp [intOf]; omega
        · have d1 : decide (j < R.length) = false := decide_eq_false hlj
          have d2 : decide ((j : Int) < (R.length : Int)) = false := decide_eq_false (by omega)
          have hpl : placeK xk R = j := placeK_go xk R j Hah.out hjl (.inl (by omega))
          clear Hah
          go_wp2
          go_quiet (fail)
          have hbx := pw_below_drewN hbi nq
          generalize wr.drewN nq = w5 at hbx ⊢
          have Hno : Hid (¬ ∃ h : j < R.length, R[j].toList = xk.toList) := Lib.hid (fun ⟨h, _⟩ => hlj h)
          go_wp2
          go_quiet (fail)
          have hbx6 := pw_below_drewN hbx nq
          clear d1 d2 hbx
          generalize w5.drewN nq = w6 at hbx6 ⊢
          obtain ⟨w5, rfl⟩ : ∃ w5 : World, w5 = w6 := ⟨_, rfl⟩
          have hbx := hbx6
          clear hbx6
          go_wp2
          have hit0 : sort1 R xk = R.take j ++ [xk] ++ R.drop j := by rw [sort1, if_neg (by rw [hitK_no hpl Hno.out]; decide), hpl]
          have Hit := Lib.hid hit0
          clear hit0 hpl
          have hCx := Kd.C_below hC2 hbx
          have hbw : Below w.heap.size w w5 := below_then hb hb.size hbx
          have x0x := zz2 _ hbw
          have hs1 := slice_headS A2 R.length c2 j hjl hc2
          have hs2 := slice_tailS A2 R.length c2 j hjl
          have hjt : (R.take j).length = j := by rw [List.length_take]; omega
          have hT1 : ∀ W, Below w5.heap.size w5 W → ReadsRow (Kd.string.K w5) 1 W A2 j (R.take j) := fun W hW => by
            have h := Kd.C_below (Kd.C_take hCx hjl) hW
            rw [hjt] at h
            exact h
          have hT2 : ∀ W, Below w5.heap.size w5 W → ReadsRow (Kd.string.K w5) 1 W (if c2 = j then A2 else A2.map (·.add j)) (R.length - j) (R.drop j) := fun W hW => by
            have h := Kd.C_below (Kd.C_drop hCx hjl hc2) hW
            rw [List.length_drop] at h
            rw [show Kd.string.sz = 1 from rfl, Nat.mul_one] at h
            exact h
          have hKM : ∀ (W : World) (x : ByteArray) (cs : List Value), Kd.string.K w5 x cs → Kd.string.M W w5.heap.size (fun _ => False) x cs := fun W x cs hK => hK
          have Hjt := Lib.hid hjt
          clear hjt
          have zz : ∀ W, Below w5.heap.size w5 W → W.cell? (ad.add k) = some (.string xk) := fun W hW => zz2 W (below_then hbw hbw.size hW)
          go_region_held3 (fun W => W.cell? (ad.add k) = some (.string xk)) (exact zz _ (by first | assumption | exact Below.refl _ _ | exact below_drew (Below.refl _ _) | exact below_drew (by assumption) | exact below_alloc (by assumption) _ | exact below_drew (below_alloc (Below.refl _ _) _) | exact below_alloc (below_drew (Below.refl _ _)) _))
              (first
                | (refine Kd.R_append_rows_step Kd.string (Rr := Kd.string.K w5) (w0 := w5) w5.heap.size ?_ (.const (.slice none 0 0)) (.tmp 46) 22 9 (.string ⟨#[]⟩) 16 ?_ Tryd.underlying22 info9 rfl ?_ ?_ (.slice none 0 0) [] (R.take j) A2 j c2 (fun _ => True) (fun _ => False) ?_ ?_ (Kd.R_nil _ _ _ _ _) (hT1 _ (by first | assumption | exact Below.refl _ _ | exact below_drew (Below.refl _ _) | exact below_drew (by assumption) | exact below_alloc (by assumption) _ | exact below_drew (below_alloc (Below.refl _ _) _) | exact below_alloc (below_drew (Below.refl _ _)) _)) (hKM _) (fun _ h => h.elim) (fun _ _ => trivial) (by first | assumption | exact Below.refl _ _ | exact below_drew (Below.refl _ _) | exact below_drew (by assumption) | exact below_alloc (by assumption) _ | exact below_drew (below_alloc (Below.refl _ _) _) | exact below_alloc (below_drew (Below.refl _ _)) _) (sz_of (by first | assumption | exact Below.refl _ _ | exact below_drew (Below.refl _ _) | exact below_drew (by assumption) | exact below_alloc (by assumption) _ | exact below_drew (below_alloc (Below.refl _ _) _) | exact below_alloc (below_drew (Below.refl _ _)) _)) (le16 hjl hRl) ?_; (rfl); (rfl); (decide); (decide); (rfl); (rfl); intro vA wA hRA hbA hgA _; rw [List.nil_append] at hRA; obtain ⟨AA, cA, eA⟩ := Kd.R_slice hRA; rw [Hjt.out] at eA; subst eA)
                | (refine Kd.R_append_step Kd.string (w0 := w5) w5.heap.size ?_ (.tmp 47) (.tmp 52) 22 9 (.string ⟨#[]⟩) 16 ?_ Tryd.underlying22 info9 rfl ?_ ?_ _ (R.take j) xk [.string xk] (fun _ => True) (fun _ => False) ?_ ?_ rfl (fun _ hk => hk.elim) (fun _ _ => trivial) hRA hbA hbA.size (le16b Hjt.out hjl hRl) ?_; (rfl); (rfl); (decide); (decide); (rfl); (first | rfl | (go_simp; done) | (go_simp; rfl)); intro vB wB hRB hbB _ _; obtain ⟨AB, cB, eB⟩ := Kd.R_slice hRB; rw [lenS_b Hjt.out] at eB; subst eB)
                | (refine Kd.R_append_rows_step Kd.string (Rr := Kd.string.K w5) (w0 := w5) w5.heap.size ?_ (.tmp 47) (.tmp 52) 22 9 (.string ⟨#[]⟩) 16 ?_ Tryd.underlying22 info9 rfl ?_ ?_ _ (R.take j) [xk] (some ⟨w5.heap.size, 0, none⟩) 1 1 (fun _ => True) (fun _ => False) ?_ ?_ hRA (litS_reads (w5 := w5) xk ((hgA.block w5.heap.size (new_lt _ _) nil_own).trans (heap_alloc_new w5 _))) (hKM _) (fun _ h => h.elim) (fun _ _ => trivial) hbA hbA.size (le16b Hjt.out hjl hRl) ?_; (rfl); (rfl); (decide); (decide); (rfl); (rfl); intro vB wB hRB hbB _ _; obtain ⟨AB, cB, eB⟩ := Kd.R_slice hRB; rw [lenS_b Hjt.out] at eB; subst eB)
                | (refine Kd.R_append_rows_step Kd.string (Rr := Kd.string.K w5) (w0 := w5) w5.heap.size ?_ (.tmp 53) (.tmp 56) 22 9 (.string ⟨#[]⟩) 16 ?_ Tryd.underlying22 info9 rfl ?_ ?_ _ (R.take j ++ [xk]) (R.drop j) _ (R.length - j) (c2 - j) (fun _ => True) (fun _ => False) ?_ ?_ hRB (hT2 _ hbB) (hKM _) (fun _ h => h.elim) (fun _ _ => trivial) hbB hbB.size (le16c Hjt.out hjl hRl) ?_; (rfl); (rfl); (decide); (decide); (rfl); (rfl); intro vC wC hRC hbC _ _; obtain ⟨AC, cC, eC⟩ := Kd.R_slice hRC; rw [lenS_c Hjt.out hjl] at eC; subst eC))
          all_goals (
            rw [← Hit.out, ← Hsn.out] at hRC
            have hRf := Kd.R_lower hRC hbw.size
            have hbf : Below w.heap.size w wC := below_then hbw hbw.size hbC
            clear hRC
            go_wp2
            go_roundw
            case rel => exact ⟨k + 1, hlt, by simp, hRf, hbf⟩
            case measure => simp [intOf]; omega)
    · have hke : k = l0.length := by omega
      subst hke
      rw [List.take_length, Hq.out] at hR
      go_wp2
      go_ret
      exact ⟨_, rfl, hR, hb⟩
end Go.Proofs.YtfaelejeihmgcaaDoor.Lgx
end

section
namespace Go.Proofs.YtfaelejeihmgcaaDoor.Lgx
open Go.RowKit Go.Proofs.YtfaelejeihmgcaaDoorW.PrintWords Go.Proofs.YtfaelejeihmgcaaDoorW.PrintLast Go.Proofs.YtfaelejeihmgcaaDoorW.PrintMore
attribute [local go_sem] max2_int min2_int max_two min_two max_three min_three max_four min_four   -- for this text's walks alone
set_option linter.unusedVariables false
set_option linter.unusedSimpArgs false
def cachepotlaw21_alive.f (k : Nat)  : Option (Bool) := (ledger_Replay.f (([(⟨2, 0, ([] : List (S101)), (([(⟨(⟨#[97]⟩ : ByteArray), true, (⟨#[]⟩ : ByteArray), 0⟩ : S98)] : List (S98))), ([] : List ByteArray)⟩ : S43)] : List (S43)))).bind fun bt299 => ((ledger_Line.f k 3 0 ([] : List (S101)) ([] : List (S98)) (([(⟨#[97]⟩ : ByteArray)] : List ByteArray))).bind fun t304 => (if t304.toList = ([102, 111, 114, 103, 111, 116, 32, 54, 49] : List UInt8) then (if bt299.1 = 0 then (some (!bt299.2)) else (some false)) else (some false)))
def cachepotlaw21_LedgerLines.j0 : Nat → Bool → Int → Int → List (S101) → List (S98) → List ByteArray → Option (Bool)
  | 0, _, _, _, _, _, _ => none
  | k + 1, x18, x306000, x306001, x306002, x306003, x306004 => if x18 = true then ((cachepotlaw21_alive.f k).bind fun t306 => (some t306)) else ((cachepotlaw21_alive.f k).bind fun t307 => (if t307 = true then ((ledger_Line.f k x306000 x306001 x306002 x306003 x306004).bind fun t308 => ((cachepotref3_Line.f k x306000 x306001 x306002 x306003 x306004).bind fun t309 => (some (t308.toList == t309.toList)))) else (some false)))
def cachepotlaw21_LedgerLines.f (k : Nat) (a0_0 : Int) (a0_1 : Int) (l0_2 : List (S101)) (l0_3 : List (S98)) (l0_4 : List ByteArray) : Option (Bool) := if (l0_2.length : Int) > 40 then (cachepotlaw21_LedgerLines.j0 k true a0_0 a0_1 l0_2 l0_3 l0_4) else (if (l0_3.length : Int) > 40 then (cachepotlaw21_LedgerLines.j0 k true a0_0 a0_1 l0_2 l0_3 l0_4) else (cachepotlaw21_LedgerLines.j0 k (decide ((l0_4.length : Int) > 40)) a0_0 a0_1 l0_2 l0_3 l0_4))
def cachepothand_Keys.l0 : Nat → List Int → Int → List ByteArray → Int → Option (List ByteArray)
  | 0, _, _, _, _ => none
  | k + 1, x0, x1, x5, x6 => if x6 < (x0.length : Int) then (if x6 < x1 then (if 0 ≤ x6 then ((cachepothand_Key.f (rd x0 x6)).bind fun t311 => (if x5.length < 8796093022208 then (cachepothand_Keys.l0 k x0 x1 (x5 ++ [t311]) (wrap64 (x6 + 1))) else (none))) else (none)) else (some x5)) else (some x5)
def cachepothand_Keys.f (k : Nat) (l0 : List Int) (a1 : Int) : Option (List ByteArray) := cachepothand_Keys.l0 k l0 a1 ([] : List ByteArray) 0
set_option maxHeartbeats 8000000 in
set_option maxRecDepth 100000 in
theorem cachepothand_Keys.calls (k : Nat) (A0 : Option Addr) (c0 : Nat) (l0 : List Int) (a1 : Int) (r : List ByteArray) (w : World) (hr0 : Kd.C (Kd.int .i64) w A0 l0.length l0) (hc0 : l0.length ≤ c0) (h : cachepothand_Keys.f k l0 a1 = some r) (hT : Tabs w) :
    Calls Tryd.prog 66 #[.slice A0 l0.length c0, .int .i64 a1] w fun e w' => ∃ v0_ : Value, e = .returned (v0_) ∧ Kd.R Kd.string 9 w' w.heap.size (fun _ => True) v0_ r ∧ Below w.heap.size w w' := by
  have HR0 := Aside0.mk hr0
  have HC0 := Aside0.mk hc0
  clear hr0 hc0
  have HB := Aside0.mk (Below.refl w.heap.size w)
  have H : (cachepothand_Keys.l0 k l0 a1 ([] : List ByteArray) 0) = some r := h
  clear h
  have H' := Aside0.mk H
  clear H
  go_enter Tryd.func66, Tryd.ntmps66
  go_wp2
  go_loopg [5, 6] k (fun kq v5 v6 w' => ∃ (x5_1 : List ByteArray) (x6_1 : Int), v6 = .int .i64 x6_1 ∧ Aside0 (cachepothand_Keys.l0 kq l0 a1 x5_1 x6_1 = some r) ∧ Aside0 (kq ≤ k) ∧ Aside0 (Kd.R Kd.string 9 w' w.heap.size (fun _ => True) v5 x5_1) ∧ Aside0 (Below w.heap.size w w'))
  case atStart => exact ⟨(([] : List ByteArray)), (0), (by first | rfl | (simp; done) | (simp [*]; done)), H', ⟨Nat.le_refl _⟩, ⟨by first | exact Kd.R_nil _ _ _ _ _ | exact Kd.N_nil _ _ _ _ _ | exact Kd.V_nil _ _ _ _ _ | exact Kd.Q_nil _ _ _ _ _ | exact Kd.S_nil _ _ _ _ _⟩, ⟨by repeat (first | (with_reducible first | exact HB.out | apply below_alloc | apply pw_below_drewN | apply below_drew1) | exact HB.out)⟩⟩
  case round =>
    clear H'
    try clear p2
    obtain ⟨x5_1, x6_1, rfl, HA, HK1, HO_5, HB⟩ := hrel
    cases gk with
    | zero => exact absurd HA.out (by simp [cachepothand_Keys.l0])
    | succ k1 =>
      have H := HA.out
      clear HA
      simp only [cachepothand_Keys.l0] at H
      by_cases c3 : x6_1 < (l0.length : Int)
      · rw [if_pos c3] at H
        have c3b0 : decide (x6_1 < (l0.length : Int)) = true := decide_eq_true c3
        clear c3
        by_cases c4 : x6_1 < a1
        · rw [if_pos c4] at H
          have c4b0 : decide (x6_1 < a1) = true := decide_eq_true c4
          clear c4
          by_cases c5 : 0 ≤ x6_1
          · rw [if_pos c5] at H
            have c5b0 : decide (0 ≤ x6_1) = true := decide_eq_true c5
            clear c5
            replace H := Option.bind_eq_some_iff.mp H
            obtain ⟨t311, A60, H⟩ := H
            replace H : (if x5_1.length < 8796093022208 then (cachepothand_Keys.l0 k1 l0 a1 (x5_1 ++ [t311]) (wrap64 (x6_1 + 1))) else (none)) = some r := H
            have A6 := Aside0.mk A60
            clear A60
            by_cases c7 : x5_1.length < 8796093022208
            · rw [if_pos c7] at H
              have LMc7 := Aside0.mk c7
              clear c7
              obtain ⟨y312, hy312⟩ : ∃ y_ : List ByteArray, y_ = (x5_1 ++ [t311]) := ⟨_, rfl⟩
              replace H : (cachepothand_Keys.l0 k1 l0 a1 y312 (wrap64 (x6_1 + 1))) = some r := by first | (rw [hy312]; with_reducible exact H) | (have H2_ := (Option.bind_some _ _).symm.trans H; rw [hy312]; with_reducible exact H2_) | (have H2_ := (Option.bind_some _ _).symm.trans H; with_reducible exact H2_) | with_reducible exact H | (rw [hy312]; exact H) | exact H
              have Ny312 := Aside0.mk hy312
              clear hy312
              have H' := Aside0.mk H
              clear H
              have p310 : 0 ≤ (x6_1 : Int) := of_decide_eq_true (by first | (with_reducible assumption) | assumption)
              have q310 : x6_1 < (l0.length : Int) := of_decide_eq_true (by first | (with_reducible assumption) | assumption)
              obtain ⟨ad310, e310, hx310_0⟩ := Kd.at_int HR0.out x6_1 p310 q310
              cases e310
              replace hx310_0 := (HB.out.cell (World.block_lt_of_cell? w _ hx310_0)).trans hx310_0
              replace p310 := eq_true p310
              replace q310 := eq_true q310
              go_wp2_with (first | ((with_reducible refine gate_callee (f := 50) rfl ?_); refine goesL_ (some 23) rfl rfl Tryd.func50 (by kernel_rfl) rfl #[.int .i64 (rd l0 x6_1)] rfl (by (try simp only [List.map_toArray, List.map_cons, List.map_nil]); first | done | rfl | (simp only [List.length_drop, List.length_take]; rfl)) ?_; (with_reducible refine (cachepothand_Key.calls (rd l0 x6_1) t311 _ A6.out (by first | exact hT | (refine Tabs.below hT ?_; (repeat (first | (with_reducible first | exact HB.out | exact Below.refl _ _ | apply below_alloc | apply pw_below_drewN | apply below_drew1) | exact HB.out))))).mono ?_); rintro e w8 ⟨rfl, hb⟩; refine ⟨_, rfl, ?_⟩; have n0_ := Aside0.mk (Kd.R_below (by (with_reducible repeat (first | apply Kd.R_alloc | apply Kd.R_drewN | apply Kd.R_drew)); exact HO_5.out) hb); have n1_ := Aside0.mk (below_step (by repeat (first | (with_reducible first | exact HB.out | apply below_alloc | apply pw_below_drewN | apply below_drew1) | exact HB.out)) hb); clear HO_5; clear HB; have HO_5 := n0_; have HB := n1_; clear n0_ n1_; (try clear hb); (try clear hb2); (try clear hk); (try clear hi)) | ((with_reducible refine gate_builtin (b := .append) (xs := #[.tmp 18, .tmp 24]) rfl ?_); at_builtin; refine Kd.R_append Kd.string (w0 := w) w.heap.size rfl (.tmp 18) (.tmp 24) 22 9 (.string ⟨#[]⟩) 16 rfl Tryd.underlying22 info9 rfl (by decide) (by omega) u5 x5_1 t311 [.string t311] (fun _ => True) (fun _ => False) rfl rfl ?aP (fun _ hk => hk.elim) ?aF ?aO ?aB ?aS ?aL ?_; (case aP => exact rfl); (case aB => exact (by repeat (first | (with_reducible first | exact HB.out | apply below_alloc | apply pw_below_drewN | apply below_drew1) | exact HB.out))); (case aF => exact (fun _ _ => trivial)); (case aO => exact (by (with_reducible repeat (first | apply Kd.R_alloc | apply Kd.R_drewN | apply Kd.R_drew)); exact HO_5.out)); (case aS => exact (below_size (by repeat (first | (with_reducible first | exact HB.out | apply below_alloc | apply pw_below_drewN | apply below_drew1) | exact HB.out)))); (case aL => have := LMc7.out; omega); intro v313 w9 ho hb hg hat; rw [← Ny312.out] at ho; have n0_ := Aside0.mk (hb); have n1_ := Aside0.mk (ho); clear HB; clear HO_5; have HB := n0_; have HO314 := n1_; clear n0_ n1_; clear ho hb hg hat))
              go_roundg k1
              case measure => have := HK1.out; omega
              case rel => exact ⟨(y312), (wrap64 (x6_1 + 1)), (by first | rfl | (simp; done) | (simp [*]; done)), H', ⟨by have := HK1.out; omega⟩, ⟨by (with_reducible repeat (first | apply Kd.R_alloc | apply Kd.R_drewN | apply Kd.R_drew)); exact HO314.out⟩, ⟨by repeat (first | (with_reducible first | exact HB.out | apply below_alloc | apply pw_below_drewN | apply below_drew1) | exact HB.out)⟩⟩
            · rw [if_neg c7] at H
              exact absurd H (by simp)
          · rw [if_neg c5] at H
            exact absurd H (by simp)
        · rw [if_neg c4] at H
          have c4b0 : decide (x6_1 < a1) = false := decide_eq_false c4
          clear c4
          obtain rfl := Option.some.inj H
          go_wp2
          go_ret
          exact ⟨_, by first | rfl | (simp [errW_none, errW_some] <;> rfl) | (simp [*, errW_none, errW_some] <;> rfl), by (with_reducible repeat (first | apply Kd.R_alloc | apply Kd.R_drewN | apply Kd.R_drew)); exact HO_5.out, by repeat (first | (with_reducible first | exact HB.out | apply below_alloc | apply pw_below_drewN | apply below_drew1) | exact HB.out)⟩
      · rw [if_neg c3] at H
        have c3b0 : decide (x6_1 < (l0.length : Int)) = false := decide_eq_false c3
        clear c3
        obtain rfl := Option.some.inj H
        go_wp2
        go_ret
        exact ⟨_, by first | rfl | (simp [errW_none, errW_some] <;> rfl) | (simp [*, errW_none, errW_some] <;> rfl), by (with_reducible repeat (first | apply Kd.R_alloc | apply Kd.R_drewN | apply Kd.R_drew)); exact HO_5.out, by repeat (first | (with_reducible first | exact HB.out | apply below_alloc | apply pw_below_drewN | apply below_drew1) | exact HB.out)⟩
def cachepotref1_BatchKeys.l0 : Nat → List (S101) → List ByteArray → Int → Option (List ByteArray)
  | 0, _, _, _ => none
  | k + 1, x0, x3, x4 => if x4 < (x0.length : Int) then (if 0 ≤ x4 then (if x3.length < 8796093022208 then (cachepotref1_BatchKeys.l0 k x0 (x3 ++ [(rd_T101 x0 x4).f0]) (wrap64 (x4 + 1))) else (none)) else (none)) else ((cachepotref1_KeysSorted.f x3).bind fun t319 => (some t319))
def cachepotref1_BatchKeys.f (k : Nat) (l0 : List (S101)) : Option (List ByteArray) := cachepotref1_BatchKeys.l0 k l0 ([] : List ByteArray) 0
set_option maxHeartbeats 8000000 in
set_option maxRecDepth 100000 in
theorem cachepotref1_BatchKeys.calls (k : Nat) (A0 : Option Addr) (c0 : Nat) (l0 : List (S101)) (r : List ByteArray) (w : World) (hr0 : Kd.C k101 w A0 l0.length l0) (hc0 : l0.length ≤ c0) (h : cachepotref1_BatchKeys.f k l0 = some r) :
    Calls Tryd.prog 120 #[.slice A0 l0.length c0] w fun e w' => ∃ v0_ : Value, e = .returned (v0_) ∧ Kd.R Kd.string 9 w' w.heap.size (fun _ => True) v0_ r ∧ Below w.heap.size w w' := by
  have HR0 := Aside0.mk hr0
  have HC0 := Aside0.mk hc0
  clear hr0 hc0
  have HB := Aside0.mk (Below.refl w.heap.size w)
  have H : (cachepotref1_BatchKeys.l0 k l0 ([] : List ByteArray) 0) = some r := h
  clear h
  have H' := Aside0.mk H
  clear H
  go_enter Tryd.func120, Tryd.ntmps120
  go_wp2
  go_loopg [3, 4] k (fun kq v3 v4 w' => ∃ (x3_1 : List ByteArray) (x4_1 : Int), v4 = .int .i64 x4_1 ∧ Aside0 (cachepotref1_BatchKeys.l0 kq l0 x3_1 x4_1 = some r) ∧ Aside0 (kq ≤ k) ∧ Aside0 (Kd.R Kd.string 9 w' w.heap.size (fun _ => True) v3 x3_1) ∧ Aside0 (Below w.heap.size w w'))
  case atStart => exact ⟨(([] : List ByteArray)), (0), (by first | rfl | (simp; done) | (simp [*]; done)), H', ⟨Nat.le_refl _⟩, ⟨by first | exact Kd.R_nil _ _ _ _ _ | exact Kd.N_nil _ _ _ _ _ | exact Kd.V_nil _ _ _ _ _ | exact Kd.Q_nil _ _ _ _ _ | exact Kd.S_nil _ _ _ _ _⟩, ⟨by repeat (first | (with_reducible first | exact HB.out | apply below_alloc | apply pw_below_drewN | apply below_drew1) | exact HB.out)⟩⟩
  case round =>
    clear H'
    try clear c1
    obtain ⟨x3_1, x4_1, rfl, HA, HK1, HO_3, HB⟩ := hrel
    cases gk with
    | zero => exact absurd HA.out (by simp [cachepotref1_BatchKeys.l0])
    | succ k1 =>
      have H := HA.out
      clear HA
      simp only [cachepotref1_BatchKeys.l0] at H
      by_cases c2 : x4_1 < (l0.length : Int)
      · rw [if_pos c2] at H
        have c2b0 : decide (x4_1 < (l0.length : Int)) = true := decide_eq_true c2
        clear c2
        by_cases c3 : 0 ≤ x4_1
        · rw [if_pos c3] at H
          have c3b0 : decide (0 ≤ x4_1) = true := decide_eq_true c3
          clear c3
          by_cases c4 : x3_1.length < 8796093022208
          · rw [if_pos c4] at H
            have LMc4 := Aside0.mk c4
            clear c4
            obtain ⟨y316, hy316⟩ : ∃ y_ : List ByteArray, y_ = (x3_1 ++ [(rd_T101 l0 x4_1).f0]) := ⟨_, rfl⟩
            replace H : (cachepotref1_BatchKeys.l0 k1 l0 y316 (wrap64 (x4_1 + 1))) = some r := by first | (rw [hy316]; with_reducible exact H) | (have H2_ := (Option.bind_some _ _).symm.trans H; rw [hy316]; with_reducible exact H2_) | (have H2_ := (Option.bind_some _ _).symm.trans H; with_reducible exact H2_) | with_reducible exact H | (rw [hy316]; exact H) | exact H
            have Ny316 := Aside0.mk hy316
            clear hy316
            have H' := Aside0.mk H
            clear H
            have p315 : 0 ≤ (x4_1 : Int) := of_decide_eq_true (by first | (with_reducible assumption) | assumption)
            have q315 : x4_1 < (l0.length : Int) := of_decide_eq_true (by first | (with_reducible assumption) | assumption)
            obtain ⟨ad315, e315, hx315_0, hx315_1, hx315_2⟩ := at_T101 HR0.out x4_1 p315 q315
            cases e315
            replace hx315_0 := (HB.out.cell (World.block_lt_of_cell? w _ hx315_0)).trans hx315_0
            replace hx315_1 := (HB.out.cell (World.block_lt_of_cell? w _ hx315_1)).trans hx315_1
            replace hx315_2 := (HB.out.cell (World.block_lt_of_cell? w _ hx315_2)).trans hx315_2
            replace p315 := eq_true p315
            replace q315 := eq_true q315
            go_wp2_with (first | ((with_reducible refine gate_builtin (b := .append) (xs := #[.tmp 11, .tmp 17]) rfl ?_); at_builtin; refine Kd.R_append Kd.string (w0 := w) w.heap.size rfl (.tmp 11) (.tmp 17) 22 9 (.string ⟨#[]⟩) 16 rfl Tryd.underlying22 info9 rfl (by decide) (by omega) u3 x3_1 ((rd_T101 l0 x4_1).f0) [.string ((rd_T101 l0 x4_1).f0)] (fun _ => True) (fun _ => False) rfl rfl ?aP (fun _ hk => hk.elim) ?aF ?aO ?aB ?aS ?aL ?_; (case aP => exact rfl); (case aB => exact (by repeat (first | (with_reducible first | exact HB.out | apply below_alloc | apply pw_below_drewN | apply below_drew1) | exact HB.out))); (case aF => exact (fun _ _ => trivial)); (case aO => exact (by (with_reducible repeat (first | apply Kd.R_alloc | apply Kd.R_drewN | apply Kd.R_drew)); exact HO_3.out)); (case aS => exact (below_size (by repeat (first | (with_reducible first | exact HB.out | apply below_alloc | apply pw_below_drewN | apply below_drew1) | exact HB.out)))); (case aL => have := LMc4.out; omega); intro v317 w5 ho hb hg hat; rw [← Ny316.out] at ho; have n0_ := Aside0.mk (hb); have n1_ := Aside0.mk (ho); clear HB; clear HO_3; have HB := n0_; have HO318 := n1_; clear n0_ n1_; clear ho hb hg hat))
            go_roundg k1
            case measure => have := HK1.out; omega
            case rel => exact ⟨(y316), (wrap64 (x4_1 + 1)), (by first | rfl | (simp; done) | (simp [*]; done)), H', ⟨by have := HK1.out; omega⟩, ⟨by (with_reducible repeat (first | apply Kd.R_alloc | apply Kd.R_drewN | apply Kd.R_drew)); exact HO318.out⟩, ⟨by repeat (first | (with_reducible first | exact HB.out | apply below_alloc | apply pw_below_drewN | apply below_drew1) | exact HB.out)⟩⟩
          · rw [if_neg c4] at H
            exact absurd H (by simp)
        · rw [if_neg c3] at H
          exact absurd H (by simp)
      · rw [if_neg c2] at H
        have c2b0 : decide (x4_1 < (l0.length : Int)) = false := decide_eq_false c2
        clear c2
        replace H := Option.bind_eq_some_iff.mp H
        obtain ⟨t319, A60, H⟩ := H
        replace H : (some t319) = some r := H
        have A6 := Aside0.mk A60
        clear A60
        obtain rfl := Option.some.inj H
        obtain ⟨Ao7, co7, eo7⟩ := Kd.R_slice HO_3.out
        subst eo7
        go_wp2_with (first | ((with_reducible refine gate_callee (f := 130) rfl ?_); refine goesL_ (some 20) rfl rfl Tryd.func130 (by kernel_rfl) rfl #[.slice Ao7 x3_1.length co7] rfl (by (try simp only [List.map_toArray, List.map_cons, List.map_nil]); first | done | rfl | (simp only [List.length_drop, List.length_take]; rfl)) ?_; (with_reducible refine (cachepotref1_KeysSorted.calls _ _ x3_1 t319 _ ?side1 ?side2 A6.out).mono ?_); (case side1 => repeat (first | exact (Kd.R_reads' HO_3.out).2.2 | (with_reducible refine Kd.C_alloc ?_ _) | (with_reducible refine Kd.C_drewN ?_ _) | (with_reducible refine Kd.C_drew ?_))); (case side2 => exact (Kd.R_reads' HO_3.out).2.1); rintro e w8 ⟨v320, rfl, ho0, hb⟩; refine ⟨_, rfl, ?_⟩; have n0_ := Aside0.mk (Kd.R_elder' (by (with_reducible repeat (first | apply Kd.R_alloc | apply Kd.R_drewN | apply Kd.R_drew)); exact HO_3.out) (Kd.R_base ho0) hb); have n1_ := Aside0.mk (Kd.R_lower (Kd.R_new' ho0 (Kd.R_lt (by (with_reducible repeat (first | apply Kd.R_alloc | apply Kd.R_drewN | apply Kd.R_drew)); exact HO_3.out))) (below_size (by repeat (first | (with_reducible first | exact HB.out | apply below_alloc | apply pw_below_drewN | apply below_drew1) | exact HB.out)))); have n2_ := Aside0.mk (below_step (by repeat (first | (with_reducible first | exact HB.out | apply below_alloc | apply pw_below_drewN | apply below_drew1) | exact HB.out)) hb); clear HO_3; clear HB; have HO_3 := n0_; have HO321 := n1_; have HB := n2_; clear n0_ n1_ n2_; (try clear hb); (try clear hb2); (try clear hk); (try clear hi); (try clear ho0)))
        go_ret
        exact ⟨_, by first | rfl | (simp [errW_none, errW_some] <;> rfl) | (simp [*, errW_none, errW_some] <;> rfl), by (with_reducible repeat (first | apply Kd.R_alloc | apply Kd.R_drewN | apply Kd.R_drew)); exact Kd.R_mono HO321.out (fun _ hk => trivial), by repeat (first | (with_reducible first | exact HB.out | apply below_alloc | apply pw_below_drewN | apply below_drew1) | exact HB.out)⟩
end Go.Proofs.YtfaelejeihmgcaaDoor.Lgx
end
