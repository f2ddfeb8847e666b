/-
  Texts of mine, and texts that print.sh and pp.py wrote, merged and cut to what is used: HandZ, HandAn, HandU, HandY, HandVs, HandV, PureU, Opn, OpnL, WalkLA
-/
import Derived.Test.YtfaelejeihmgcaaDoorProg
import Derived.Below
import Derived.Lib.ItoaMem
import Derived.Lib.LaidTab
import Derived.Deep.Draws
import Derived.Deep.AppendLies
import Derived.Maps.AppendAt
import Derived.OwnWalk
import Derived.Laws.BytesArg
import Derived.Laws.MakeOwn
import Derived.Laws.OwnMore
import Derived.Deep.OwnRows
import Derived.Tactics
import Derived.Lib.ConvBytes
import Derived.Laws.Slices
import Derived.WalkKit
import Derived.KernelRfl
import Derived.RowKit3
import Derived.Deep.LoopGhost
import Derived.Deep.QuietTactic
import Derived.BigQuiet
import Derived.WideLaws
import Derived.Deep.DeepCutAuto
import Derived.Deep.CutBlock
import Derived.Deep.RegionHeld3
import Derived.Laws.Rows
import Derived.Lib.AppendStr
import Derived.ArgAppend
import Derived.Laws.IdiomCopy
import Derived.OrdersHeld
import Derived.Laws.BitsLemmas
import Derived.RowKit
import Derived.Laws.StructEq
import Derived.Shelf.Strconv.Itoa0
import Derived.Shelf.Strconv.Itoa1
import Derived.Shelf.LaysM
import Derived.Shelf.Strconv.Itoa2
import Derived.Lib.Strings
import Derived.Lib.Slices
import Derived.Lib.Walk
import Derived.Lib.Builder
import Derived.Lib.UnsafeStr
import Derived.Shelf.Strings.Builder1
import Derived.Shelf.Strings.OnBuilder
import Derived.Shelf.Unicode.DecodeSlow
import Derived.Shelf.Unicode.DecodeAny
import Derived.Laws.Externs
import Derived.Lib.DecodeNEq
import Derived.StillTailTactics
import Derived.Outline
import Derived.Lib.Hide
import Derived.IntWalk
import Derived.WalkSpells
import Derived.Tactics2
import Derived.Laws.Pointers
import Derived.Lib.AppendIntMem
import Derived.BigCall
import Derived.BigGuard
import Derived.FnData
import Derived.Carry
import Derived.Deep.MidRow
import Derived.Maps.OwnSet
import Derived.StillTactics
import Derived.Test.YtfaelejeihmgcaaDoorRows
import Derived.ChangeArms
import Derived.DataReads
import Derived.DataElems
import Derived.Test.YtfaelejeihmgcaaDoorCards
import Derived.Test.YtfaelejeihmgcaaDoorTie
import Derived.Lib.LaidU8
import Derived.LaidMore
import Derived.Lay
import Derived.ProofKit
import Derived.OpenShut
import Derived.SevenTiedAt
import Derived.Stop.Joined
import Derived.Deep.DeepHandedRow
import Derived.SliceStrings
import Derived.Test.YtfaelejeihmgcaaDoorMa0
import Derived.Test.YtfaelejeihmgcaaDoorMa1
import Derived.Test.YtfaelejeihmgcaaDoorMa2
import Derived.Test.YtfaelejeihmgcaaDoorMa3

section
namespace Go.Proofs.YtfaelejeihmgcaaDoor.Lgx
open Go.RowKit Go.Proofs.YtfaelejeihmgcaaDoorW.PrintWords Go.Proofs.YtfaelejeihmgcaaDoorW.PrintLast
def forgotS : ByteArray := ⟨#[102, 111, 114, 103, 111, 116]⟩
def hexS (s : ByteArray) : ByteArray := ⟨(Wd.hexB s).toArray⟩
def forgotL1 (l : List ByteArray) : List ByteArray := [forgotS] ++ l.map hexS
theorem forgot_snoc (l : List ByteArray) (x : ByteArray) : forgotL1 (l ++ [x]) = forgotL1 l ++ [hexS x] := by simp [forgotL1]
theorem join_at (A : Option Addr) (c n : Nat) (l : List ByteArray) (r : ByteArray) (w : World) (hn : l.length = n) (hr : Kd.C Kd.string w A l.length l) (hc : l.length ≤ c) (h : strings_Join.f l ⟨#[32]⟩ = some r) :
    Calls Tryd.prog 62 #[.slice A n c, .string ⟨#[32]⟩] w fun e w' => e = .returned (.string r) ∧ Below w.heap.size w w' := by
  subst hn
  exact strings_Join.calls A c l _ r w hr hc h
set_option maxHeartbeats 4000000 in
set_option maxRecDepth 100000 in
theorem ledger_Line_forgot (f1 : Int) (A2 : Option Addr) (n2 c2 : Nat) (A3 : Option Addr) (n3 c3 : Nat) (A4 : Option Addr) (c4 : Nat) (l : List ByteArray) (r : ByteArray) (w : World) (hC : Kd.C Kd.string w A4 l.length l) (hl : l.length ≤ 1000) (hs : ∀ s ∈ l, s.size ≤ 1048576) (h : strings_Join.f (forgotL1 l) ⟨#[32]⟩ = some r) :
    Calls Tryd.prog 32 #[.agg #[.int .i64 3, .int .u32 f1, .slice A2 n2 c2, .slice A3 n3 c3, .slice A4 l.length c4]] w fun e w' => e = .returned (.string r) ∧ Below w.heap.size w w' := by
  have H := Lib.hid h
  have HS := Lib.hid hs
  clear h hs
  have hb1 := below_alloc (Below.refl _ w) (.cells #[.int .i64 3, .int .u32 f1, .slice A2 n2 c2, .slice A3 n3 c3, .slice A4 l.length c4] 43)
  have hz := heap_alloc_new w (.cells #[.int .i64 3, .int .u32 f1, .slice A2 n2 c2, .slice A3 n3 c3, .slice A4 l.length c4] 43)
  have hlt1 : w.heap.size < (w.alloc (.cells #[.int .i64 3, .int .u32 f1, .slice A2 n2 c2, .slice A3 n3 c3, .slice A4 l.length c4] 43)).heap.size := by simp
  go_enter Tryd.func32, Tryd.ntmps32
  go_wp2_with ((with_reducible refine gate_dst (N := 84) rfl ?_); refine Kd.R_lit Kd.string _ 9 ?hg (N := 84) ?hd (xs := [forgotS]) (inner := [.string forgotS]) (ok := fun _ => True) (okp := fun _ => True) ?hr ?hp (fun _ hk => hk) trivial (Below.refl _ _) (Nat.le_refl _) (by simp) ?_; (case hd => rfl); (case hg => rfl); (case hr => first | (go_simp; done) | (go_simp; rfl)); (case hp => exact (Reps.one (show Kd.M Kd.string _ _ _ forgotS [.string forgotS] from rfl) (Reps.none _ _))))
  intro v0 w2 hR0 hb2 _ x _ _
  rw [show w.heap.size + 1 = (w.alloc (.cells #[.int .i64 3, .int .u32 f1, .slice A2 n2 c2, .slice A3 n3 c3, .slice A4 l.length c4] 43)).heap.size by simp] at hR0 hb2
  generalize w.alloc (.cells #[.int .i64 3, .int .u32 f1, .slice A2 n2 c2, .slice A3 n3 c3, .slice A4 l.length c4] 43) = w1 at hb1 hz hlt1 hR0 hb2 ⊢
  have z4 : w2.cell? ⟨w.heap.size, 4, none⟩ = some (.slice A4 l.length c4) := (hb2.cell (p := ⟨w.heap.size, 4, none⟩) hlt1).trans (Lib.cell_of_heap hz 4)
  go_wp2_with fail
  go_loopw [3, 88] (fun v i wi => ∃ j : Nat, j ≤ l.length ∧ i = .int .i64 j ∧ Kd.R Kd.string 9 wi w1.heap.size (fun _ => True) v (forgotL1 (l.take j)) ∧ Below w1.heap.size w1 wi) (fun _ i _ => l.length - (intOf i).toNat)
  case atStart => exact ⟨0, Nat.zero_le _, rfl, hR0, hb2⟩
  case round =>
    clear hR0 hb2
    obtain ⟨j, hjl, rfl, hR, hbi⟩ := hrel
    have hbm := below_then hb1 hb1.size hbi
    by_cases hlj : j < l.length
    · obtain ⟨ad, e, c0⟩ := Kd.at_string hC j (by omega) (by omega)
      cases e
      have hrd : rdOf ByteArray.empty l (j : Int) = l[j] := by
        unfold rdOf
        rw [List.getD_eq_getElem?_getD, Int.toNat_natCast, List.getElem?_eq_getElem hlj]
        rfl
      rw [hrd] at c0
      have hsn := forgot_snoc (l.take j) l[j]
      rw [← List.take_succ_eq_append_getElem hlj] at hsn
      have hx0 := HS.out _ (List.getElem_mem hlj)
      obtain ⟨x, hx⟩ : ∃ x, x = l[j] := ⟨_, rfl⟩
      rw [← hx] at c0 hsn hx0
      have Hsn := Lib.hid hsn
      have hxf : ledger_hex.f x = some (hexS x) := by
        unfold ledger_hex.f hexS
        rw [if_pos (Nat.le_trans hx0 (by decide))]
      have Hxf := Lib.hid hxf
      clear hsn hx hrd hx0 hxf
      simp only [Int.toNat_natCast] at c0
      replace c0 := (hbm.cell (World.block_lt_of_cell? w _ c0)).trans c0
      have hlen : (forgotL1 (l.take j)).length ≤ 1048576 := by simp only [forgotL1, List.length_append, List.length_map, List.length_singleton]; have := List.length_take_le j l; omega
      go_wp2_with fail
      refine (ledger_hex.calls x _ _ Hxf.out).mono ?_
      rintro e w3 ⟨rfl, hb3⟩
      have hbj := below_then hbi hbi.size hb3
      have hR3 := Kd.R_below hR hb3
      clear hR
      go_wp2_with (at_builtin; refine Kd.R_append Kd.string (w0 := w1) w1.heap.size rfl (.tmp 92) (.tmp 95) 22 9 (.string ⟨#[]⟩) 16 rfl Tryd.underlying22 info9 rfl (by decide) (by omega) u3 (forgotL1 (l.take j)) (hexS x) [.string (hexS x)] (fun _ => True) (fun _ => False) rfl (by first | (go_simp; done) | (go_simp; rfl)) rfl (fun _ hk => hk.elim) (fun _ _ => trivial) hR3 hbj hbj.size ?aL ?_)
      case aL => omega
      intro v1 w4 hR1 hb4 _ _
      have hR2 : Kd.R Kd.string 9 w4 w1.heap.size (fun _ => True) v1 (forgotL1 (l.take (j + 1))) := by rw [Hsn.out]; exact hR1
      clear hR3 hR1
      go_wp2
      go_roundw
      case rel => exact ⟨j + 1, hlj, by simp, hR2, hb4⟩
      case measure => simp [intOf]; omega
    · have hje : j = l.length := by omega
      subst hje
      rw [List.take_length] at hR
      obtain ⟨Aa, ca, ea⟩ := Kd.R_slice hR
      subst ea
      obtain ⟨_, hca, hCa⟩ := Kd.R_reads' hR
      have Hca := Lib.hid hca
      obtain ⟨n, hn⟩ : ∃ n, (forgotL1 l).length = n := ⟨_, rfl⟩
      rw [hn]
      have Hn := Lib.hid hn
      clear hR hca hn
      go_wp2_with fail
      refine (join_at Aa ca n (forgotL1 l) r wr Hn.out hCa Hca.out H.out).mono ?_
      rintro e w5 ⟨rfl, hb5⟩
      have hbf := below_then hbm hbm.size hb5
      go_wp2
      go_ret
      exact ⟨rfl, hbf⟩
theorem alive_replay : ledger_Replay.f [⟨2, 0, [], [⟨⟨#[97]⟩, true, ⟨#[]⟩, 0⟩], []⟩] = some (0, false) := by
  unfold ledger_Replay.f
  rw [if_pos (by decide)]
  simp [replayM, fails, sameA, neA, getM, asked, Atm.nought]
theorem alive_line : strings_Join.f (forgotL1 [⟨#[97]⟩]) ⟨#[32]⟩ = some ⟨#[102, 111, 114, 103, 111, 116, 32, 54, 49]⟩ := by
  have e : Wd.joinB (forgotL1 [⟨#[97]⟩]) ⟨#[32]⟩ = [102, 111, 114, 103, 111, 116, 32, 54, 49] := by decide
  unfold strings_Join.f Wd.strings_Join.f
  rw [e]
  rfl
theorem bytes9 : ((⟨#[102, 111, 114, 103, 111, 116, 32, 54, 49]⟩ : ByteArray).toList == ([102, 111, 114, 103, 111, 116, 32, 54, 49] : List UInt8)) = true := by rw [ByteArray.toList_eq]; decide
set_option maxHeartbeats 8000000 in
set_option maxRecDepth 100000 in
theorem alive_walk (w : World) : Calls Tryd.prog 31 #[] w fun e w' => e = .returned (.bool true) ∧ Below w.heap.size w w' := by
  have hu98 := Tryd.underlying98
  have hu43 := Tryd.underlying43
  have HB := Aside0.mk (Below.refl w.heap.size w)
  obtain ⟨y293, hy293⟩ : ∃ y_ : List (S98), y_ = (([(⟨(⟨#[97]⟩ : ByteArray), true, (⟨#[]⟩ : ByteArray), 0⟩ : S98)] : List (S98))) := ⟨_, rfl⟩
  obtain ⟨y296, hy296⟩ : ∃ y_ : List (S43), y_ = (([(⟨2, 0, ([] : List (S101)), y293, ([] : List ByteArray)⟩ : S43)] : List (S43))) := ⟨_, rfl⟩
  obtain ⟨y301, hy301⟩ : ∃ y_ : List ByteArray, y_ = (([(⟨#[97]⟩ : ByteArray)] : List ByteArray)) := ⟨_, rfl⟩
  obtain ⟨t304, ht304⟩ : ∃ t_ : ByteArray, t_ = ⟨#[102, 111, 114, 103, 111, 116, 32, 54, 49]⟩ := ⟨_, rfl⟩
  have A1 : Aside0 (ledger_Replay.f y296 = some (0, false)) := ⟨by rw [hy296, hy293]; exact alive_replay⟩
  have A2 : Aside0 (strings_Join.f (forgotL1 y301) ⟨#[32]⟩ = some t304) := ⟨by rw [hy301, ht304]; exact alive_line⟩
  have c3b0 : (t304.toList == ([102, 111, 114, 103, 111, 116, 32, 54, 49] : List UInt8)) = true := by rw [ht304]; exact bytes9
  have c3b1 : (t304.toList != ([102, 111, 114, 103, 111, 116, 32, 54, 49] : List UInt8)) = false := bne_eq_false_iff_eq.mpr (beq_iff_eq.1 c3b0)
  have Ny293 := Aside0.mk hy293
  have Ny296 := Aside0.mk hy296
  have Ny301 := Aside0.mk hy301
  clear hy293 hy296 hy301 ht304
  go_enter Tryd.func31, Tryd.ntmps31
  go_wp2_with (first | ((with_reducible refine gate_dst (N := 5) rfl ?_); refine Kd.R_lit k98 _ 98 ?hg (N := 5) ?hd (xs := ([(⟨(⟨#[97]⟩ : ByteArray), true, (⟨#[]⟩ : ByteArray), 0⟩ : S98)] : List (S98))) (inner := [.string (⟨#[97]⟩ : ByteArray), .bool true, .string (⟨#[]⟩ : ByteArray), .int .u32 0]) (ok := fun _ => True) (okp := fun _ => True) ?hr ?hp (fun _ hk => hk) trivial (Below.refl _ _) (Nat.le_refl _) (by simp) ?_; (case hd => rfl); (case hg => rfl); (case hr => first | (go_simp; done) | (go_simp; rfl)); (case hp => exact (Reps.c4 (show Kd.M k98 _ _ _ (⟨(⟨#[97]⟩ : ByteArray), true, (⟨#[]⟩ : ByteArray), 0⟩ : S98) [.string (⟨#[97]⟩ : ByteArray), .bool true, .string (⟨#[]⟩ : ByteArray), .int .u32 0] from (k98_mkM _ _ _ (⟨(⟨#[97]⟩ : ByteArray), true, (⟨#[]⟩ : ByteArray), 0⟩ : S98) )) (Reps.none _ _))); intro v294 w5 ho6 hb hg_ hnew_; clear hg_ hnew_; (first | rw [← Ny293.out] at ho6 | (simp only [Int.reduceToNat] at ho6; rw [← Ny293.out] at ho6)); have n0_ := Aside0.mk (Kd.R_lower ho6 (below_size (by repeat (first | (with_reducible first | exact HB.out | apply below_alloc | apply pw_below_drewN | apply below_drew1) | exact HB.out)))); have n1_ := Aside0.mk (below_step (by repeat (first | (with_reducible first | exact HB.out | apply below_alloc | apply pw_below_drewN | apply below_drew1) | exact HB.out)) hb); clear HB; have HO295 := n0_; have HB := n1_; clear n0_ n1_; clear hb ho6; obtain ⟨Ao7, co7, eo7⟩ := Kd.R_slice HO295.out; subst eo7) | ((with_reducible refine gate_dst (N := 7) rfl ?_); refine Kd.N_lit k43 _ 43 ?hg (N' := 7) ?hd (xs := ([(⟨2, 0, ([] : List (S101)), y293, ([] : List ByteArray)⟩ : S43)] : List (S43))) (inner := [.int .i64 2, .int .u32 0, .slice none 0 0, .slice Ao7 y293.length co7, .slice none 0 0]) (ok := (fun _ => True)) (okp := (fun _ => True)) ?hr ?hp (fun _ hk => hk) ((show ∀ k_, w5.heap.size ≤ k_ → (fun _ => True) k_ from fun k_ hk => trivial) _ (Nat.le_refl _)) (Below.refl _ _) (Nat.le_refl _) (by simp) ?_; (case hd => rfl); (case hg => rfl); (case hr => first | (go_simp; done) | (go_simp; rfl)); (case hp => exact (Reps.c5 (show Kd.FK k43 _ _ (⟨2, 0, ([] : List (S101)), y293, ([] : List ByteArray)⟩ : S43) [.int .i64 2, .int .u32 0, .slice none 0 0, .slice Ao7 y293.length co7, .slice none 0 0] from (k43_mkF _ _ (⟨2, 0, ([] : List (S101)), y293, ([] : List ByteArray)⟩ : S43) (Nat.le_refl _) (Kd.F_nil _ _ _) (Kd.R_reads' (Kd.R_mono (ok' := (fun _ => True)) (HO295.out) (fun k_ hk => trivial))).2.1 (Kd.R_F (Kd.R_mono (ok' := (fun _ => True)) (HO295.out) (fun k_ hk => trivial))) (Nat.le_refl _) (Kd.F_nil _ _ _))) (Reps.none _ _))); intro v297 w8 ho9 hb hg_ hnew_; clear hg_ hnew_; (first | rw [← Ny296.out] at ho9 | (simp only [Int.reduceToNat] at ho9; rw [← Ny296.out] at ho9)); have n0_ := Aside0.mk (Kd.N_lower ho9 (below_size (by repeat (first | (with_reducible first | exact HB.out | apply below_alloc | apply pw_below_drewN | apply below_drew1) | exact HB.out)))); have n1_ := Aside0.mk (below_step (by repeat (first | (with_reducible first | exact HB.out | apply below_alloc | apply pw_below_drewN | apply below_drew1) | exact HB.out)) hb); clear HB; clear HO295; have HO298 := n0_; have HB := n1_; clear n0_ n1_; clear hb ho9; obtain ⟨Ao10, co10, eo10⟩ := Kd.N_slice HO298.out; subst eo10) | ((with_reducible refine gate_callee (f := 35) rfl ?_); refine goesL_ (some 8) rfl rfl Tryd.func35 (by kernel_rfl) rfl #[.slice Ao10 y296.length co10] rfl (by (try simp only [List.map_toArray, List.map_cons, List.map_nil]); first | done | rfl | (simp only [List.length_drop, List.length_take]; rfl)) ?_; (with_reducible refine (ledger_Replay.calls _ _ y296 0 false _ ?side1 ?side2 A1.out).mono ?_); (case side1 => repeat (first | exact (Kd.N_reads' HO298.out).2.2 | (with_reducible refine Kd.C_alloc ?_ _) | (with_reducible refine Kd.C_drewN ?_ _) | (with_reducible refine Kd.C_drew ?_))); (case side2 => exact (Kd.N_reads' HO298.out).2.1); rintro e w11 ⟨rfl, hb⟩; refine ⟨_, rfl, ?_⟩; have n0_ := Aside0.mk (Kd.N_below (by (with_reducible repeat (first | apply Kd.N_alloc | apply Kd.N_drewN | apply Kd.N_drew)); exact HO298.out) hb); have n1_ := Aside0.mk (below_step (by repeat (first | (with_reducible first | exact HB.out | apply below_alloc | apply pw_below_drewN | apply below_drew1) | exact HB.out)) hb); clear HO298; clear HB; have HO298 := n0_; have HB := n1_; clear n0_ n1_; (try clear hb); (try clear hb2); (try clear hk); (try clear hi)) | ((with_reducible refine gate_dst (N := 11) rfl ?_); refine Kd.R_lit Kd.string _ 9 ?hg (N := 11) ?hd (xs := ([(⟨#[97]⟩ : ByteArray)] : List ByteArray)) (inner := [.string (⟨#[97]⟩ : ByteArray)]) (ok := fun _ => True) (okp := fun _ => True) ?hr ?hp (fun _ hk => hk) trivial (Below.refl _ _) (Nat.le_refl _) (by simp) ?_; (case hd => rfl); (case hg => rfl); (case hr => first | (go_simp; done) | (go_simp; rfl)); (case hp => exact (Reps.one (show Kd.M Kd.string _ _ _ (⟨#[97]⟩ : ByteArray) [.string (⟨#[97]⟩ : ByteArray)] from rfl) (Reps.none _ _))); intro v302 w12 ho13 hb hg_ hnew_; clear hg_ hnew_; (first | rw [← Ny301.out] at ho13 | (simp only [Int.reduceToNat] at ho13; rw [← Ny301.out] at ho13)); have n0_ := Aside0.mk (Kd.N_elder' (by (with_reducible repeat (first | apply Kd.N_alloc | apply Kd.N_drewN | apply Kd.N_drew)); exact HO298.out) (Kd.R_base ho13) hb); have n1_ := Aside0.mk (Kd.R_lower ho13 (below_size (by repeat (first | (with_reducible first | exact HB.out | apply below_alloc | apply pw_below_drewN | apply below_drew1) | exact HB.out)))); have n2_ := Aside0.mk (below_step (by repeat (first | (with_reducible first | exact HB.out | apply below_alloc | apply pw_below_drewN | apply below_drew1) | exact HB.out)) hb); clear HO298; clear HB; have HO298 := n0_; have HO303 := n1_; have HB := n2_; clear n0_ n1_ n2_; clear hb ho13; obtain ⟨Ao14, co14, eo14⟩ := Kd.R_slice HO303.out; subst eo14) | ((with_reducible refine gate_callee (f := 32) rfl ?_); refine goesL_ (some 13) rfl rfl Tryd.func32 (by kernel_rfl) rfl #[.agg #[.int .i64 3, .int .u32 0, .slice none 0 0, .slice none 0 0, .slice Ao14 y301.length co14]] rfl (by (try simp only [List.map_toArray, List.map_cons, List.map_nil]); first | done | rfl | (simp only [List.length_drop, List.length_take]; rfl)) ?_; (refine (ledger_Line_forgot 0 _ 0 0 _ 0 0 _ _ y301 t304 _ ?side5 (by rw [Ny301.out]; decide) (by rw [Ny301.out]; decide) A2.out).mono ?_); (case side5 => repeat (first | exact (Kd.R_reads' HO303.out).2.2 | (with_reducible refine Kd.C_alloc ?_ _) | (with_reducible refine Kd.C_drewN ?_ _) | (with_reducible refine Kd.C_drew ?_))); rintro e w15 ⟨rfl, hb⟩; refine ⟨_, rfl, ?_⟩; have n0_ := Aside0.mk (Kd.N_below (by (with_reducible repeat (first | apply Kd.N_alloc | apply Kd.N_drewN | apply Kd.N_drew)); exact HO298.out) hb); have n1_ := Aside0.mk (Kd.R_below (by (with_reducible repeat (first | apply Kd.R_alloc | apply Kd.R_drewN | apply Kd.R_drew)); exact HO303.out) hb); have n2_ := Aside0.mk (below_step (by repeat (first | (with_reducible first | exact HB.out | apply below_alloc | apply pw_below_drewN | apply below_drew1) | exact HB.out)) hb); clear HO298; clear HO303; clear HB; have HO298 := n0_; have HO303 := n1_; have HB := n2_; clear n0_ n1_ n2_; (try clear hb); (try clear hb2); (try clear hk); (try clear hi)))
  go_ret
  exact ⟨by first | rfl | (simp [errW_none, errW_some] <;> rfl) | (simp [*, errW_none, errW_some] <;> rfl), by repeat (first | (with_reducible first | exact HB.out | apply below_alloc | apply pw_below_drewN | apply below_drew1) | exact HB.out)⟩
end Go.Proofs.YtfaelejeihmgcaaDoor.Lgx
end

section
namespace Go.Proofs.YtfaelejeihmgcaaDoor.Lgx
open Go.RowKit Go.Proofs.YtfaelejeihmgcaaDoorW.PrintWords Go.Proofs.YtfaelejeihmgcaaDoorW.PrintLast
def anyG : List S43 → Nat → List S43 → Option (List S43)
  | [], _, out => some out
  | e :: l, i, out => if i < 15 then (cachepotlaw21_short.f 1000 e.f0 e.f1 e.f2 e.f3 e.f4).bind fun r => anyG l (i + 1) (out ++ [⟨r.1, r.2.1, r.2.2.1, r.2.2.2.1, r.2.2.2.2⟩]) else some out
set_option maxHeartbeats 16000000 in
set_option maxRecDepth 100000 in
theorem LedgerAny_walk (A0 : Option Addr) (c0 : Nat) (l0 : List S43) (w : World) (hr0 : Kd.C k43 w A0 l0.length l0) (hc0 : l0.length ≤ c0) (x : List S43) (n p q : Int) (ok up wh : Bool) (k : Nat)
    (hev : anyG l0 0 [] = some x) (h1 : ledger_Replay.f x = some (n, ok)) (h2 : cachepotref3_Replay.f x = some (n, ok)) (h3 : ledger_Rising.f k x = some (p, up)) (h4 : cachepotref3_Rising.f k x = some (p, up)) (h5 : wholeF x 0 x = (q, wh)) (hx : x.length ≤ 1000) (hw : ∀ e ∈ x, e.f2.length ≤ 1000) (hw3 : ∀ e ∈ x, e.f3.length ≤ 1000) :
    Calls Tryd.prog 12 #[.slice A0 l0.length c0] w fun e w' => e = .returned (.bool true) ∧ Below w.heap.size w w' := by
  have Hev := Lib.hid hev
  have H1 := Lib.hid h1
  have H2 := Lib.hid h2
  have H3 := Lib.hid h3
  have H4 := Lib.hid h4
  have H5 := Lib.hid h5
  have Hx := Lib.hid hx
  have Hw := Lib.hid hw
  have Hw3 := Lib.hid hw3
  have Hc0 := Lib.hid hc0
  clear hev h1 h2 h3 h4 h5 hx hw hw3 hc0
  go_enter Tryd.func12, Tryd.ntmps12
  go_wp2_with fail
  go_loopw [3, 4] (fun vo i wr => ∃ (j : Nat) (out : List S43), j ≤ l0.length ∧ j ≤ 15 ∧ i = .int .i64 j ∧ out.length = j ∧ Kd.R k43 43 wr w.heap.size (fun _ => True) vo out ∧ Below w.heap.size w wr ∧ Aside0 (anyG (l0.drop j) j out = some x)) (fun _ i _ => l0.length - (intOf i).toNat)
  case atStart => exact ⟨0, [], Nat.zero_le _, Nat.zero_le _, rfl, rfl, Kd.R_nil _ _ _ _ _, Below.refl _ _, ⟨by rw [List.drop_zero]; exact Hev.out⟩⟩
  case round =>
    clear Hev
    obtain ⟨j, out, hjl, hj15, rfl, hol, hR, hb, hq⟩ := hrel
    by_cases hgo : j < l0.length ∧ j < 15
    · obtain ⟨hlt, hlt15⟩ := hgo
      obtain ⟨ad, A4, c4, A5, c5, A6, c6, e, x0, x1, x2, x3, x4, l2, g2, l3, g3, l4, g4⟩ := at_T43 hr0 j (by omega) (by omega)
      cases e
      rw [rd43 hlt] at x0 x1 x2 x3 x4 l2 g2 l3 g3 l4 g4
      have hqs := hq.out
      rw [List.drop_eq_getElem_cons hlt, anyG, if_pos hlt15] at hqs
      obtain ⟨y, hy⟩ : ∃ y, y = l0[j] := ⟨_, rfl⟩
      rw [← hy] at x0 x1 x2 x3 x4 l2 g2 l3 g3 l4 g4 hqs
      obtain ⟨⟨r1, r2, r3, r4, r5⟩, hsh, hqs⟩ := Option.bind_eq_some_iff.1 hqs
      have Hqs := Lib.hid hqs
      have Hsh := Lib.hid hsh
      have Hol := Lib.hid hol
      clear hy hq hqs hsh
      obtain ⟨yk, ys, yw, ya, yy⟩ := y
      simp only [Int.toNat_natCast] at x0 x1 x2 x3 x4
      replace x0 := (hb.cell (World.block_lt_of_cell? w _ x0)).trans x0
      replace x1 := (hb.cell (World.block_lt_of_cell? w _ x1)).trans x1
      replace x2 := (hb.cell (World.block_lt_of_cell? w _ x2)).trans x2
      replace x3 := (hb.cell (World.block_lt_of_cell? w _ x3)).trans x3
      replace x4 := (hb.cell (World.block_lt_of_cell? w _ x4)).trans x4
      have HL2 := Lib.hid l2
      have HL3 := Lib.hid l3
      have HL4 := Lib.hid l4
      have hlen : (out.length + 1) * 88 ≤ 140737488355328 := by rw [hol]; omega
      have hlt' := Kd.R_lt hR
      clear l2 l3 l4 hol
      have d1 : decide (j < l0.length) = true := decide_eq_true hlt
      have d2 : decide ((j : Int) < 15) = true := decide_eq_true (by omega)
      go_wp2_with fail
      refine (cachepotlaw21_short.calls 1000 yk ys A4 c4 yw A5 c5 ya A6 c6 yy r1 r2 r3 r4 r5 _ (Kd.C_below g2 hb) HL2.out (Kd.C_below g3 hb) HL3.out (Kd.C_below g4 hb) HL4.out Hsh.out).mono ?_
      rintro e w6 ⟨v2, v3, v4, rfl, hR2, hR3, hR4, hb6⟩
      have h2 := Kd.R_lower (Kd.R_mono (Kd.R_bound hR2) (fun q hq => (hq.2.1 : wr.heap.size ≤ q))) hb.size
      have h3 := Kd.R_lower (Kd.R_mono (Kd.R_bound hR3) (fun q hq => (hq.2.1 : wr.heap.size ≤ q))) hb.size
      have h4 := Kd.R_lower (Kd.R_mono (Kd.R_bound hR4) (fun q hq => (hq.2.1 : wr.heap.size ≤ q))) hb.size
      have hR6 := Kd.R_below hR hb6
      have hbx := below_then hb hb.size hb6
      clear hR2 hR3 hR4 x0 x1 x2 x3 x4 g2 g3 g4 hR
      obtain ⟨Ae, ce, ee⟩ := Kd.R_slice h2
      subst ee
      obtain ⟨Af, cf, ef⟩ := Kd.R_slice h3
      subst ef
      obtain ⟨Ag, cg, eg⟩ := Kd.R_slice h4
      subst eg
      go_wp2_with (at_builtin; refine Kd.R_append k43 (w0 := w) w.heap.size rfl (.tmp 27) (.tmp 33) 47 43 (.agg #[(.int .i64 0), (.int .u32 0), (.slice none 0 0), (.slice none 0 0), (.slice none 0 0)]) 88 rfl Tryd.underlying47 info43 rfl (by decide) (by decide) u3 out (⟨r1, r2, r3, r4, r5⟩ : S43) [.int .i64 r1, .int .u32 r2, .slice Ae r3.length ce, .slice Af r4.length cf, .slice Ag r5.length cg] (fun _ => True) (fun q => wr.heap.size ≤ q) rfl (by first | (go_simp; done) | (go_simp; rfl)) (k43_mkM _ _ _ (⟨r1, r2, r3, r4, r5⟩ : S43) h2 h3 h4) (fun q hq => ⟨trivial, fun e => by have := hlt' q e.symm; omega⟩) (fun _ _ => trivial) hR6 hbx hbx.size ?aL ?_)
      case aL => exact hlen
      intro v1 w9 hR1 hb1 _ _
      clear h2 h3 h4 hR6 hlen hlt'
      go_wp2
      go_roundw
      case rel => exact ⟨j + 1, _, hlt, by omega, by simp, by rw [List.length_append, Hol.out]; rfl, hR1, hb1, ⟨Hqs.out⟩⟩
      case measure => simp [intOf]; omega
    · have hxo : out = x := by
        have hqs := hq.out
        by_cases hlt : j < l0.length
        · have h15 : ¬ j < 15 := fun h => hgo ⟨hlt, h⟩
          rw [List.drop_eq_getElem_cons hlt, anyG, if_neg h15] at hqs
          exact Option.some.inj hqs
        · rw [List.drop_eq_nil_of_le (by omega), anyG] at hqs
          exact Option.some.inj hqs
      subst hxo
      have hex : decide (j < l0.length) = false ∨ (decide (j < l0.length) = true ∧ decide ((j : Int) < 15) = false) := by
        by_cases hlt : j < l0.length
        · exact .inr ⟨decide_eq_true hlt, decide_eq_false (by have h15 : ¬ j < 15 := fun h => hgo ⟨hlt, h⟩; omega)⟩
        · exact .inl (decide_eq_false hlt)
      clear hq hol hgo
      obtain ⟨A, c, ev⟩ := Kd.R_slice hR
      subst ev
      obtain ⟨_, hxc, hC⟩ := Kd.R_reads' hR
      have Hxc := Lib.hid hxc
      clear hR hxc
      rcases hex with d1 | ⟨d1, d2⟩
      all_goals (
        go_wp2_with fail
        refine (ledger_Replay.calls A c out n ok wr hC Hxc.out H1.out).mono ?_
        rintro e w2 ⟨rfl, hb2⟩
        go_wp2_with fail
        refine (cachepotref3_Replay.calls A c out n ok w2 (Kd.C_below hC hb2) Hxc.out H2.out).mono ?_
        rintro e w3 ⟨rfl, hb3⟩
        have hb23 := below_then hb2 hb2.size hb3
        go_wp2_with fail
        refine (ledger_Whole_walk A c out q wh w3 (Kd.C_below hC hb23) Hxc.out Hx.out Hw.out Hw3.out H5.out).mono ?_
        rintro e w4 ⟨rfl, hb4⟩
        have hb24 := below_then hb23 hb23.size hb4
        go_wp2_with fail
        refine (ref_Whole_walk A c out q wh w4 (Kd.C_below hC hb24) Hxc.out Hx.out Hw.out Hw3.out H5.out).mono ?_
        rintro e w5 ⟨rfl, hb5⟩
        have hb25 := below_then hb24 hb24.size hb5
        go_wp2_with fail
        refine (ledger_Rising.calls k A c out p up w5 (Kd.C_below hC hb25) Hxc.out H3.out).mono ?_
        rintro e w6 ⟨rfl, hb6⟩
        have hb26 := below_then hb25 hb25.size hb6
        go_wp2_with fail
        refine (cachepotref3_Rising.calls k A c out p up w6 (Kd.C_below hC hb26) Hxc.out H4.out).mono ?_
        rintro e w7 ⟨rfl, hb7⟩
        have hb27 := below_then hb26 hb26.size hb7.below
        go_wp2_with fail
        refine (alive_walk w7).mono ?_
        rintro e w8 ⟨rfl, hb8⟩
        have hb28 := below_then hb27 hb27.size hb8
        have hbf := below_then hb hb.size hb28
        clear hb2 hb3 hb4 hb5 hb6 hb7 hb8 hb23 hb24 hb25 hb26 hb27
        go_wp2
        go_ret
        exact ⟨by simp, hbf⟩)
end Go.Proofs.YtfaelejeihmgcaaDoor.Lgx
end

section
namespace Go.Proofs.YtfaelejeihmgcaaDoor.Lgx
open Go.RowKit Go.Proofs.YtfaelejeihmgcaaDoorW.PrintWords Go.Proofs.YtfaelejeihmgcaaDoorW.PrintLast
/-- one thing of an answer turned -/
def turn1 (x : S98) (q how : Int) : S98 :=
  if q = 0 then ⟨x.f0, !x.f1, x.f2, x.f3⟩ else if q = 1 then ⟨x.f0, x.f1, x.f2 ++ ⟨#[120]⟩, x.f3⟩ else if q = 2 then ⟨x.f0, x.f1, x.f2, IntKind.u32.wrap (x.f3 + 1)⟩
  else if q = 3 then ⟨nameAt (pickI (wrap64 (Int.tdiv how 5)) 12), x.f1, x.f2, x.f3⟩ else ⟨x.f0, false, ⟨#[]⟩, 0⟩
def turnedA (l : List S98) (at_ how : Int) : List S98 := l.set (pickI at_ l.length).toNat (turn1 (rd_T98 l (pickI at_ l.length)) (pickI how 5) how)
end Go.Proofs.YtfaelejeihmgcaaDoor.Lgx
end

section
namespace Go.Proofs.YtfaelejeihmgcaaDoor.Lgx
open Go.RowKit Go.Proofs.YtfaelejeihmgcaaDoorW.PrintWords Go.Proofs.YtfaelejeihmgcaaDoorW.PrintLast
def turnE (e : S43) (at_ how : Int) : S43 :=
  if e.f0 = 1 then ⟨1, e.f1 / 2 + pickI at_ 3, e.f2, e.f3, e.f4⟩
  else if e.f3.length = 0 then e else ⟨e.f0, e.f1, e.f2, turnedA e.f3 at_ how, e.f4⟩
end Go.Proofs.YtfaelejeihmgcaaDoor.Lgx
end

section
namespace Go.Proofs.YtfaelejeihmgcaaDoor.Lgx
open Go.RowKit Go.Proofs.YtfaelejeihmgcaaDoorW.PrintWords Go.Proofs.YtfaelejeihmgcaaDoorW.PrintLast
structure St (w W : World) (b n : Nat) (vm : Value) (L : List S98) (vo : Value) (out : List S43) (xc : Array Value) (ec : Array Value) : Prop where
  I : RefIs W w.heap.size b vm L
  O : Kd.R k43 43 W w.heap.size (fun q => q ≠ b ∧ q < n) vo out
  X : W.heap[n]? = some (.cells xc 58)
  E : W.heap[n + 1]? = some (.cells ec 43)
  B : Below w.heap.size w W
  hn : b < n
section
variable {w W : World} {b n : Nat} {vm : Value} {L : List S98} {vo : Value} {out : List S43} {xc ec : Array Value} {a0 a1 a2 a3 a4 : Value}
theorem St.lt (s : St w W b n vm L vo out xc ec) : n + 1 < W.heap.size := (Array.getElem?_eq_some_iff.1 s.E).1
theorem St.below (s : St w W b n vm L vo out xc ec) {W' : World} (h : Below W.heap.size W W') : St w W' b n vm L vo out xc ec :=
  ⟨s.I.below h, Kd.R_below s.O h, (h.block n (Nat.lt_of_succ_lt s.lt)).trans s.X, (h.block (n + 1) s.lt).trans s.E, below_then s.B s.B.size h, s.hn⟩
/-- the map's pointer behind an append to the row of events -/
theorem RefIs.over {W' : World} {ok : Nat → Prop} (h : RefIs W w.heap.size b vm L) (hO : Kd.R k43 43 W w.heap.size ok vo out) (hok : ∀ q, ok q → q ≠ b) (hg : W.grownBy W' vo.ownBlock) : RefIs W' w.heap.size b vm L :=
  ⟨(hg.block b h.lt (Kd.R_away hO hok)).trans h.cell, Kd.R_over' h.row (Kd.R_typed hO) (by decide) hg, h.hB⟩
/-- what an event's rows own stands apart from the map and the row of events -/
theorem St.apart (s : St w W b n vm L vo out xc ec) : ∀ k, n + 1 < k → k ≠ b ∧ some k ≠ vo.ownBlock := fun k hk => by
  have hn := s.hn
  exact ⟨by omega, fun e => by have := (s.O.1 k e.symm).2; omega⟩
end
structure OkRow (e : S43) (L L' : List S98) : Prop where
  Lw : L.length + e.f2.length ≤ 1048576
  L2 : L'.length ≤ 1048576
  sL : Short98 L
  sw : ∀ y ∈ e.f2, y.f0.size ≤ 1099511627776
  l3 : e.f3.length ≤ 1048576
  l4 : e.f4.length ≤ 1048576
  s3 : ∀ y ∈ e.f3, y.f2.size ≤ 1099511627776
  u3 : ∀ y ∈ e.f3, 0 ≤ y.f3 ∧ y.f3 ≤ 4294967295
  q0 : 0 ≤ e.f1
  q1 : e.f1 ≤ 4294967295
/-- what the walk of a row wants of what the row turns to -/
def okRow (e : S43) (L L' : List S98) : Bool :=
  decide (L.length + e.f2.length ≤ 1048576) && (decide (L'.length ≤ 1048576) && (L.all (fun y => decide (y.f0.size ≤ 1099511627776)) && (e.f2.all (fun y => decide (y.f0.size ≤ 1099511627776)) &&
  (decide (e.f3.length ≤ 1048576) && (decide (e.f4.length ≤ 1048576) && (e.f3.all (fun y => decide (y.f2.size ≤ 1099511627776) && (decide (0 ≤ y.f3) && decide (y.f3 ≤ 4294967295))) && (decide (0 ≤ e.f1) && decide (e.f1 ≤ 4294967295))))))))
end Go.Proofs.YtfaelejeihmgcaaDoor.Lgx
end

section
namespace Go.Proofs.YtfaelejeihmgcaaDoor.Lgx
open Go.RowKit Go.Proofs.YtfaelejeihmgcaaDoorW.PrintWords Go.Proofs.YtfaelejeihmgcaaDoorW.PrintLast
/-- the next number -/
def nextSeq (seq f1 : Int) : Int := (seq + (1 + Int.tmod f1 3) % 4294967296) % 4294967296
/-- what a row turns to: the event, the number, the reference's rows -/
def row1 (x : S58) (seq : Int) (L : List S98) : Option (S43 × Int × List S98) :=
  if pickI x.f0 8 = 3 then (cachepothand_Keys.f 1000 x.f3 4).bind fun ks => some (⟨3, 0, [], [], ks⟩, seq, forgetF ks L)
  else if pickI x.f0 8 = 4 ∨ pickI x.f0 8 = 5 ∨ pickI x.f0 8 = 6 then (cachepothand_Keys.f 1000 x.f3 5).bind fun ks => some (⟨2, 0, [], refGetF L ks, []⟩, seq, L)
  else if pickI x.f0 8 = 7 then (cachepotlaw21_short.f 1000 x.f4.f0 x.f4.f1 x.f4.f2 x.f4.f3 x.f4.f4).bind fun r => some (⟨r.1, r.2.1, r.2.2.1, r.2.2.2.1, r.2.2.2.2⟩, seq, L)
  else (cachepothand_Writes.f 1000 x.f2 5).bind fun ws => some (⟨1, nextSeq seq x.f1, ws, [], []⟩, nextSeq seq x.f1, commitF (nextSeq seq x.f1) ws L)
def eventsG : List S58 → Int → Nat → Int → List S98 → List S43 → Option (List S43)
  | [], _, _, _, _, out => some out
  | x :: l, turn, i, seq, L, out => if i < 30 then
      (row1 x seq L).bind fun r => if okRow r.1 L r.2.2 = true then eventsG l turn (i + 1) r.2.1 r.2.2 (out ++ [if (i : Int) = turn then turnE r.1 x.f5 x.f6 else r.1]) else none
    else some out
def cachepotlaw21_events.f (l : List S58) (turn : Int) : Option (List S43) := if l.length ≤ 9223372036854775807 then eventsG l turn 0 0 [] [] else none
end Go.Proofs.YtfaelejeihmgcaaDoor.Lgx
end

section
namespace Go.Proofs.YtfaelejeihmgcaaDoor.Lgx
open Go.RowKit Go.Proofs.YtfaelejeihmgcaaDoorW.PrintWords Go.Proofs.YtfaelejeihmgcaaDoorW.PrintLast
/-- a map's answers are few, of few bytes -/
structure LB (n : Nat) (L : List S98) : Prop where
  len : L.length ≤ n
  s : ∀ y ∈ L, AnsB 60 y
theorem LB.without {n : Nat} {L : List S98} (h : LB n L) (k : ByteArray) : LB n (withoutF k L) := ⟨Nat.le_trans (withoutF_len k L) h.len, fun y hy => h.s y (List.mem_filter.1 hy).1⟩
theorem LB.forget (l : List ByteArray) : ∀ {n : Nat} {L : List S98}, LB n L → LB n (forgetF l L) := by
  induction l with
  | nil => intro n L h; exact h
  | cons k l ih => intro n L h; exact ih (h.without k)
theorem LB.commit1 {n : Nat} {L : List S98} (h : LB n L) {seq : Int} (h0 : 0 ≤ seq) (h1 : seq ≤ 4294967295) {x : S101} (hx : WrB x) : LB (n + 1) (commit1 seq x L) := by
  refine ⟨Nat.le_trans (commit1_len seq x L) (by have := h.len; omega), fun y hy => ?_⟩
  unfold Lgx.commit1 at hy
  split at hy
  · exact (h.without x.f0).s y hy
  · unfold insF at hy
    rcases List.mem_append.1 hy with hy | hy
    · rcases List.mem_append.1 hy with hy | hy
      · exact (h.without x.f0).s y (List.mem_of_mem_take hy)
      · rw [List.mem_singleton.1 hy]
        exact ⟨hx.1, hx.2, h0, h1⟩
    · exact (h.without x.f0).s y (List.mem_of_mem_drop hy)
theorem LB.commit {seq : Int} (h0 : 0 ≤ seq) (h1 : seq ≤ 4294967295) (l : List S101) : ∀ {n : Nat} {L : List S98}, LB n L → (∀ x ∈ l, WrB x) → LB (n + l.length) (commitF seq l L) := by
  induction l with
  | nil => intro n L h _; exact h
  | cons x l ih =>
    intro n L h hx
    have := ih (h.commit1 h0 h1 (hx x (by simp))) (fun y hy => hx y (by simp [hy]))
    rw [List.length_cons, show n + (l.length + 1) = n + 1 + l.length by omega]
    exact this
theorem look_b (k : ByteArray) : ∀ (l : List S98) (a : S98), (∀ y ∈ l, AnsB 60 y) → AnsB 60 a → AnsB 60 (l.foldl (lookStep k) a)
  | [], _, _, ha => ha
  | y :: l, a, h, ha => by
    rw [List.foldl_cons]
    refine look_b k l _ (fun z hz => h z (by simp [hz])) ?_
    unfold lookStep
    split
    · exact h y (by simp)
    · exact ha
theorem LB.get {n : Nat} {L : List S98} (h : LB n L) {l : List ByteArray} (hl : ∀ k ∈ l, k.size ≤ 4) : ∀ y ∈ refGetF L l, AnsB 60 y := fun y hy => by
  obtain ⟨k, hk, rfl⟩ := List.mem_map.1 hy
  exact look_b k L _ h.s ⟨Nat.le_trans (hl k hk) (by decide), by simp only; decide, by simp only; decide, by simp only; decide⟩
theorem LB.short {n : Nat} {L : List S98} (h : LB n L) : Short98 L := fun y hy => Nat.le_trans (h.s y hy).1 (by decide)
theorem okRow_mk {e : S43} {L L' : List S98} (he : EvB 60 e) {n n' : Nat} (hL : LB n L) (hL' : LB n' L') (hn : n ≤ 1000) (hn' : n' ≤ 1000) : okRow e L L' = true := by
  unfold okRow
  simp only [Bool.and_eq_true, decide_eq_true_eq, List.all_eq_true]
  have := he.n2
  have := he.n3
  have := he.n4
  have := hL.len
  have := hL'.len
  exact ⟨by omega, by omega, fun y hy => Nat.le_trans (hL.s y hy).1 (by decide), fun y hy => Nat.le_trans (he.s2 y hy).1 (by decide), by omega, by omega, fun y hy => ⟨Nat.le_trans (he.s3 y hy).2.1 (by decide), (he.s3 y hy).2.2⟩, he.q0, he.q1⟩
/-- what a row turns to -/
structure Row1 (x : S58) (seq : Int) (L : List S98) (n : Nat) (e : S43) (seq' : Int) (L' : List S98) : Prop where
  f : row1 x seq L = some (e, seq', L')
  ev : EvB 60 e
  q0 : 0 ≤ seq'
  q1 : seq' ≤ 4294967295
  l : LB (n + 5) L'
  ok : okRow e L L' = true
theorem EvB.okE {e : S43} {V : Nat} (h : EvB V e) : okE e = true := by
  unfold Lgx.okE small
  simp only [Bool.and_eq_true, decide_eq_true_eq, List.all_eq_true]
  have := h.n2
  have := h.n3
  have := h.n4
  exact ⟨⟨⟨⟨⟨by omega, by omega⟩, by omega⟩, fun y hy => Nat.le_trans (h.s2 y hy).1 (by decide)⟩, fun y hy => Nat.le_trans (h.s3 y hy).1 (by decide)⟩, fun y hy => Nat.le_trans (h.s4 y hy) (by decide)⟩
theorem okL_mk {l : List S43} {V : Nat} (hl : l.length ≤ 30) (h : ∀ e ∈ l, EvB V e) : okL l = true := by
  unfold okL
  simp only [Bool.and_eq_true, decide_eq_true_eq, List.all_eq_true]
  exact ⟨by omega, fun e he => (h e he).okE⟩
theorem writesN_le {V : Nat} : ∀ (l : List S43), (∀ e ∈ l, EvB V e) → writesN l ≤ 6 * l.length
  | [], _ => by simp [writesN]
  | e :: l, h => by
    have := writesN_le l (fun y hy => h y (by simp [hy]))
    have := (h e (by simp)).n2
    unfold writesN at *
    simp only [List.map_cons, List.sum_cons, List.length_cons]
    omega
theorem okR_mk {l : List S43} {V : Nat} (hl : l.length ≤ 30) (h : ∀ e ∈ l, EvB V e) : okR l = true := by
  have := writesN_le l h
  unfold okR
  simp only [Bool.and_eq_true, decide_eq_true_eq, List.all_eq_true]
  exact ⟨okL_mk hl h, by omega, fun e he x hx => Nat.le_trans ((h e he).s2 x hx).1 (by decide)⟩
theorem replay_f {l : List S43} {V : Nat} (hl : l.length ≤ 30) (h : ∀ e ∈ l, EvB V e) : ledger_Replay.f l = some (replayM 0 (fun _ => Atm.nought) l) := by
  unfold ledger_Replay.f
  rw [if_pos (okL_mk hl h)]
theorem replayR_f {l : List S43} {V : Nat} (hl : l.length ≤ 30) (h : ∀ e ∈ l, EvB V e) : cachepotref3_Replay.f l = some (replayM 0 (fun _ => Atm.nought) l) := by
  unfold cachepotref3_Replay.f
  rw [if_pos (okR_mk hl h), replay_eq l 0 Tells.none]
def risingF : Nat → Int → Bool → List S43 → Int × Bool
  | i, _, _, [] => ((i : Int), true)
  | i, top, some_, e :: l => if e.f0 = 1 then (if some_ = true ∧ e.f1 ≤ top then ((i : Int), false) else risingF (i + 1) e.f1 true l) else risingF (i + 1) top some_ l
theorem rising_l0 (x : List S43) (hx : x.length ≤ 1000) : ∀ (d k i : Nat) (top : Int) (b : Bool), x.length - i = d → d < k → i ≤ x.length → ledger_Rising.l0 k x top b x (x.length : Int) (i : Int) = some (risingF i top b (x.drop i)) := by
  intro d
  induction d with
  | zero =>
    intro k i top b hd hk hi
    obtain ⟨k, rfl⟩ : ∃ m, k = m + 1 := ⟨k - 1, by omega⟩
    simp only [ledger_Rising.l0]
    rw [if_neg (by omega), List.drop_eq_nil_of_le (by omega), risingF, show x.length = i by omega]
  | succ d ih =>
    intro k i top b hd hk hi
    obtain ⟨k, rfl⟩ : ∃ m, k = m + 1 := ⟨k - 1, by omega⟩
    have h1 : i < x.length := by omega
    have e1 := fun t b' => ih k (i + 1) t b' (by omega) (by omega) (by omega)
    simp only [ledger_Rising.l0]
    rw [if_pos (by omega), if_pos (by omega), if_pos (by omega), rd43 h1, w64s _ (by omega) (by omega), List.drop_eq_getElem_cons h1, risingF]
    split
    · cases b
      · rw [if_neg (by decide), if_neg (by simp)]
        exact e1 _ _
      · rw [if_pos rfl]
        split
        · rename_i h
          rw [if_pos ⟨rfl, h⟩]
        · rename_i h
          rw [if_neg (fun h' => h h'.2)]
          exact e1 _ _
    · exact e1 _ _
theorem rising_f (x : List S43) (hx : x.length ≤ 30) (k : Nat) (hk : 100 ≤ k) : ledger_Rising.f k x = some (risingF 0 0 false x) := by
  unfold ledger_Rising.f
  exact rising_l0 x (by omega) x.length k 0 0 false (by omega) (by omega) (by omega)
theorem refrising_l0 (x : List S43) (hx : x.length ≤ 1000) : ∀ (d k i : Nat) (top : Int) (b : Bool), x.length - i = d → d < k → i ≤ x.length → cachepotref3_Rising.l0 k x top b (i : Int) = some (risingF i top b (x.drop i)) := by
  intro d
  induction d with
  | zero =>
    intro k i top b hd hk hi
    obtain ⟨k, rfl⟩ : ∃ m, k = m + 1 := ⟨k - 1, by omega⟩
    simp only [cachepotref3_Rising.l0]
    rw [if_neg (by omega), List.drop_eq_nil_of_le (by omega), risingF, show x.length = i by omega]
  | succ d ih =>
    intro k i top b hd hk hi
    obtain ⟨k, rfl⟩ : ∃ m, k = m + 1 := ⟨k - 1, by omega⟩
    have h1 : i < x.length := by omega
    have e1 := fun t b' => ih k (i + 1) t b' (by omega) (by omega) (by omega)
    simp only [cachepotref3_Rising.l0]
    rw [if_pos (by omega), if_pos (by omega), rd43 h1, w64s _ (by omega) (by omega), List.drop_eq_getElem_cons h1, risingF]
    split
    · cases b
      · rw [if_neg (by decide), if_neg (by simp)]
        exact e1 _ _
      · rw [if_pos rfl]
        split
        · rename_i h
          rw [if_pos ⟨rfl, h⟩]
        · rename_i h
          rw [if_neg (fun h' => h h'.2)]
          exact e1 _ _
    · exact e1 _ _
theorem refrising_f (x : List S43) (hx : x.length ≤ 30) (k : Nat) (hk : 100 ≤ k) : cachepotref3_Rising.f k x = some (risingF 0 0 false x) := by
  unfold cachepotref3_Rising.f
  exact refrising_l0 x (by omega) x.length k 0 0 false (by omega) (by omega) (by omega)
end Go.Proofs.YtfaelejeihmgcaaDoor.Lgx
end

section
namespace Go.Proofs.YtfaelejeihmgcaaDoor.Opn
open Go.RowKit Go.Proofs.YtfaelejeihmgcaaDoorW.PrintWords Go.Proofs.YtfaelejeihmgcaaDoor.Rows
/-- Data of type t read as_ the kind d; 'fit N x' holds of what was read at bulk N. -/
structure Opn {α : Type} (d : Kd α) (t : TypeId) (fit : Nat → α → Prop) : Prop where
  sz : Tryd.prog.cellsOf t = d.sz
  mono : ∀ {N N' : Nat} {x : α}, N ≤ N' → fit N x → fit N' x
  opn : ∀ {H : Type} {enc : TypeId × Value → H} {W : World} {n : Nat} {cs : List Value} {D : DataW H} {ps : List MemPlace},
    DataW.trod enc Tryd.prog W 0 (fun _ => true) true n t cs = some (D, ps) → ∃ x, d.K W x cs ∧ fit (uptoBulk D) x
theorem bulk_pos {H : Type} (D : DataW H) : 1 ≤ uptoBulk D := by
  cases D with
  | lit l => cases l <;> simp [uptoBulk]
  | _ => simp [uptoBulk]
theorem bulk_all {H : Type} : ∀ (l : List (DataW H)) (i : Nat) (D : DataW H), l[i]? = some D → uptoBulk D ≤ uptoBulkAll l
  | [], i, D, h => by simp at h
  | x :: l, 0, D, h => by
    simp at h
    subst h
    simp [uptoBulkAll]
  | x :: l, i + 1, D, h => by
    have := bulk_all l i D (by simpa using h)
    simp [uptoBulkAll]
    omega
theorem bulk_len {H : Type} : ∀ (l : List (DataW H)), l.length ≤ uptoBulkAll l
  | [] => Nat.le_refl _
  | x :: l => by
    have := bulk_len l
    have := bulk_pos x
    simp [uptoBulkAll]
    omega
theorem int {t : TypeId} {k : IntKind} (ht : Tryd.prog.underlying t = some (.int k)) (hs : Tryd.prog.cellsOf t = 1) : Opn (Kd.int k) t (fun _ n => (Lit.int k n).wf = true) := by
  refine ⟨hs, fun _ h => h, fun {H enc W n cs D ps} h => ?_⟩
  obtain ⟨a, rfl, _, hw⟩ := DataW.trod_int ht h
  exact ⟨a, rfl, hw⟩
theorem bool {t : TypeId} (ht : Tryd.prog.underlying t = some .bool) (hs : Tryd.prog.cellsOf t = 1) : Opn Kd.bool t (fun _ _ => True) := by
  refine ⟨hs, fun _ h => h, fun {H enc W n cs D ps} h => ?_⟩
  obtain ⟨b, rfl, _⟩ := DataW.trod_bool ht h
  exact ⟨b, rfl, trivial⟩
theorem string {t : TypeId} (ht : Tryd.prog.underlying t = some .string) (hs : Tryd.prog.cellsOf t = 1) : Opn Kd.string t (fun N s => s.size ≤ N ∧ s.size ≤ maxLen) := by
  refine ⟨hs, fun h h' => ⟨Nat.le_trans h'.1 h, h'.2⟩, fun {H enc W n cs D ps} h => ?_⟩
  obtain ⟨s, rfl, hx, hm⟩ := DataW.trod_string ht h
  simp only [Prod.mk.injEq] at hx
  obtain ⟨rfl, _⟩ := hx
  refine ⟨s, rfl, ?_, hm⟩
  simp only [uptoBulk, Array.length_toList]
  exact Nat.le_succ _
theorem slice {α : Type} {d : Kd α} {e t : TypeId} {fit : Nat → α → Prop} (o : Opn d e fit) (ht : Tryd.prog.underlying t = some (.slice e)) (hs : Tryd.prog.cellsOf t = 1) :
    Opn (Kd.slice e d) t (fun N xs => xs.length ≤ N ∧ ∀ x ∈ xs, fit N x) := by
  refine ⟨hs, fun h h' => ⟨Nat.le_trans h'.1 h, fun x hx => o.mono h (h'.2 x hx)⟩, fun {H enc W n cs D ps} h => ?_⟩
  rcases DataW.trod_slice ht h with ⟨rfl, _⟩ | ⟨a, len, cap, elems, rest, m, rfl, rfl, hx, _, hle, hmx, hlen, hel, _, _⟩
  · exact ⟨[], ⟨none, 0, rfl, Nat.le_refl _, rfl, by simp, fun hn => absurd hn (by simp)⟩, Nat.zero_le _, fun x hx => by simp at hx⟩
  · simp only [Prod.mk.injEq] at hx
    obtain ⟨rfl, _⟩ := hx
    have each : ∀ i : Fin len, ∃ x c, c.length = d.sz ∧ d.K W x c ∧ (∀ q u, c[q]? = some u → W.cell? (a.add (i.val * d.sz + q)) = some u) ∧ fit (uptoBulkAll (elems.map (·.1))) x := by
      intro i
      have h1 := hel i.val i.isLt
      rw [List.getElem?_eq_getElem (by rw [hlen]; exact i.isLt)] at h1
      obtain ⟨c, hc, hy⟩ := Option.bind_eq_some_iff.1 h1
      obtain ⟨x, hK, hf⟩ := o.opn (D := (elems[i.val]'(by rw [hlen]; exact i.isLt)).1) (ps := (elems[i.val]'(by rw [hlen]; exact i.isLt)).2) hy
      obtain ⟨_, hcl, hcell⟩ := World.cells?_some hc
      rw [o.sz] at hcl hcell
      refine ⟨x, c, hcl, hK, fun q u hq => ?_, o.mono (bulk_all _ i.val (elems[i.val]'(by rw [hlen]; exact i.isLt)).1 (by rw [List.getElem?_map, List.getElem?_eq_getElem (by rw [hlen]; exact i.isLt)]; rfl)) hf⟩
      have hql := (List.getElem?_eq_some_iff.1 hq).1
      rw [← hq, ← hcell q (by omega)]
      rw [Addr.add_add]
    refine ⟨List.ofFn fun i : Fin len => Classical.choose (each i), ⟨some a, cap, by rw [List.length_ofFn], by rw [List.length_ofFn]; exact hle, rfl, by rw [List.length_ofFn]; unfold maxLen at hmx; omega, fun _ => ⟨a, rfl, fun j p hj => ?_⟩⟩, ?_, fun x hx => ?_⟩
    · obtain ⟨hjl, hjp⟩ := List.getElem?_eq_some_iff.1 hj
      rw [List.length_ofFn] at hjl
      rw [List.getElem_ofFn] at hjp
      obtain ⟨c, h1, h2, h3, _⟩ := Classical.choose_spec (each ⟨j, hjl⟩)
      rw [hjp] at h2
      exact ⟨c, h1, h2, h3⟩
    · rw [List.length_ofFn, ← hlen]
      have := bulk_len (elems.map (·.1))
      rw [List.length_map] at this
      simp only [uptoBulk]
      omega
    · obtain ⟨i, rfl⟩ := List.mem_ofFn.1 hx
      obtain ⟨c, _, _, _, h4⟩ := Classical.choose_spec (each i)
      exact o.mono (by simp only [uptoBulk]; omega) h4
/-- The fields of a struct from an offset on. -/
structure OpnF {α : Type} (d : Kd α) (fs : List Field) (off : Nat) (fit : Nat → α → Prop) : Prop where
  mono : ∀ {N N' : Nat} {x : α}, N ≤ N' → fit N x → fit N' x
  opn : ∀ {H : Type} {enc : TypeId × Value → H} {W : World} {n : Nat} {cs : List Value} {xs : List (DataW H × List MemPlace)}, xs.length = fs.length →
    (∀ (i : Nat) (f : Field), fs[i]? = some f → DataW.trod enc Tryd.prog W 0 (fun _ => true) true n f.type ((cs.drop f.offset).take (Tryd.prog.cellsOf f.type)) = xs[i]?) →
    ∃ x, d.K W x ((cs.drop off).take d.sz) ∧ fit (uptoBulkAll (xs.map (·.1))) x
theorem OpnF.one {α : Type} {d : Kd α} {f : Field} {t off : Nat} {fit : Nat → α → Prop} (o : Opn d t fit) (ht : f.type = t) (ho : f.offset = off) : OpnF d [f] off fit := by
  subst ht
  refine ⟨o.mono, fun {H enc W n cs xs} hl h => ?_⟩
  obtain ⟨y, rfl⟩ : ∃ y, xs = [y] := by
    match xs, hl with
    | [y], _ => exact ⟨y, rfl⟩
  have h0 := h 0 f rfl
  rw [ho, o.sz] at h0
  obtain ⟨x, hK, hf⟩ := o.opn (D := y.1) (ps := y.2) h0
  exact ⟨x, hK, o.mono (bulk_all _ 0 _ rfl) hf⟩
theorem OpnF.cons {α β : Type} {a : Kd α} {b : Kd β} {f : Field} {fs : List Field} {t off : Nat} {fa : Nat → α → Prop} {fb : Nat → β → Prop} (o : Opn a t fa) (ht : f.type = t) (ho : f.offset = off) (os : OpnF b fs (off + a.sz) fb) :
    OpnF (Kd.pair a b) (f :: fs) off (fun N x => fa N x.1 ∧ fb N x.2) := by
  subst ht
  refine ⟨fun hN h => ⟨o.mono hN h.1, os.mono hN h.2⟩, fun {H enc W n cs xs} hl h => ?_⟩
  match xs, hl with
  | y :: xs, hl =>
    have h0 := h 0 f rfl
    rw [ho, o.sz] at h0
    obtain ⟨x, hK, hf⟩ := o.opn (D := y.1) (ps := y.2) h0
    obtain ⟨x', hK', hf'⟩ := os.opn (cs := cs) (xs := xs) (by simpa using hl) (fun i g hg => h (i + 1) g (by simpa using hg))
    refine ⟨(x, x'), ⟨_, _, ?_, hK, hK'⟩, o.mono (bulk_all _ 0 _ rfl) hf, os.mono (by simp [uptoBulkAll]) hf'⟩
    show (cs.drop off).take (a.sz + b.sz) = _
    rw [List.take_add, List.drop_drop]
theorem struct {α β : Type} {d : Kd α} {proj : β → α} {t : TypeId} {fs : Array Field} {fit : Nat → α → Prop} (os : OpnF d fs.toList 0 fit) (ht : Tryd.prog.underlying t = some (.struct fs)) (hs : Tryd.prog.cellsOf t = d.sz)
    (mk : α → β) (hm : ∀ y, proj (mk y) = y) : Opn (Kd.iso d proj) t (fun N x => fit N (proj x)) := by
  refine ⟨hs, fun h h' => os.mono h h', fun {H enc W n cs D ps} h => ?_⟩
  obtain ⟨xs, m, rfl, hx, hl, hxl, he⟩ := DataW.trod_struct ht h
  simp only [Prod.mk.injEq] at hx
  obtain ⟨rfl, _⟩ := hx
  obtain ⟨y, hK, hf⟩ := os.opn (cs := cs) (xs := xs) (by simpa using hxl) (fun i f hi => he i f (by simpa using hi))
  rw [List.drop_zero, ← hs, ← hl, List.take_length] at hK
  refine ⟨mk y, ?_, ?_⟩
  · show d.K W (proj (mk y)) cs
    rw [hm]
    exact hK
  · rw [hm]
    exact os.mono (by simp only [uptoBulk]; omega) hf
end Go.Proofs.YtfaelejeihmgcaaDoor.Opn
end

section
namespace Go.Proofs.YtfaelejeihmgcaaDoor.Lgx
open Go.ChangeShapes Go.WideShapes Go.ChangeAt Go.RowKit Go.Lib Go.Shelf Go.Proofs.YtfaelejeihmgcaaDoorW.PrintWords
theorem own : ownKnob Tryd.prog.godebug = none := by kernel_rfl
theorem laidOut : laidOutB Tryd.prog = true := by kernel_rfl
theorem c3 : Tryd.prog.cellsOf 3 = 1 := by kernel_rfl
theorem c4 : Tryd.prog.cellsOf 4 = 1 := by kernel_rfl
theorem c9 : Tryd.prog.cellsOf 9 = 1 := by kernel_rfl
theorem c22 : Tryd.prog.cellsOf 22 = 1 := by kernel_rfl
theorem c39 : Tryd.prog.cellsOf 39 = 1 := by kernel_rfl
theorem c40 : Tryd.prog.cellsOf 40 = 1 := by kernel_rfl
theorem c41 : Tryd.prog.cellsOf 41 = 1 := by kernel_rfl
theorem c43 : Tryd.prog.cellsOf 43 = 5 := by kernel_rfl
theorem c98 : Tryd.prog.cellsOf 98 = 4 := by kernel_rfl
theorem c101 : Tryd.prog.cellsOf 101 = 3 := by kernel_rfl
def f9 (N : Nat) (s : ByteArray) : Prop := s.size ≤ N ∧ s.size ≤ maxLen
def ok101 (N : Nat) (x : S101) : Prop := f9 N x.f0 ∧ True ∧ f9 N x.f2
def ok98 (N : Nat) (x : S98) : Prop := f9 N x.f0 ∧ True ∧ f9 N x.f2 ∧ (Lit.int .u32 x.f3).wf = true
def ok43 (N : Nat) (x : S43) : Prop := (Lit.int .i64 x.f0).wf = true ∧ (Lit.int .u32 x.f1).wf = true ∧ (x.f2.length ≤ N ∧ ∀ y ∈ x.f2, ok101 N y) ∧ (x.f3.length ≤ N ∧ ∀ y ∈ x.f3, ok98 N y) ∧ (x.f4.length ≤ N ∧ ∀ y ∈ x.f4, f9 N y)
theorem o9 : Opn.Opn Kd.string 9 f9 := Opn.string Tryd.underlying9 c9
theorem o4 : Opn.Opn Kd.bool 4 (fun _ _ => True) := Opn.bool Tryd.underlying4 c4
theorem o3 : Opn.Opn (Kd.int .i64) 3 (fun _ n => (Lit.int .i64 n).wf = true) := Opn.int Tryd.underlying3 c3
theorem o39 : Opn.Opn (Kd.int .u32) 39 (fun _ n => (Lit.int .u32 n).wf = true) := Opn.int Tryd.underlying39 c39
set_option maxRecDepth 100000 in
theorem o101 : Opn.Opn k101 101 ok101 :=
  Opn.struct (proj := fun x : S101 => (x.f0, x.f1, x.f2)) (Opn.OpnF.cons (f := { name := "Key", type := 9, offset := 0, embedded := false, tag := "", pkgPath := "", byteOffset := 0 }) o9 rfl rfl (Opn.OpnF.cons (f := { name := "Del", type := 4, offset := 1, embedded := false, tag := "", pkgPath := "", byteOffset := 16 }) o4 rfl rfl (Opn.OpnF.one (f := { name := "Val", type := 9, offset := 2, embedded := false, tag := "", pkgPath := "", byteOffset := 24 }) o9 rfl rfl))) Tryd.underlying101 c101 (fun y : ByteArray × Bool × ByteArray => (⟨y.1, y.2.1, y.2.2⟩ : S101)) (fun _ => rfl)
set_option maxRecDepth 100000 in
theorem o98 : Opn.Opn k98 98 ok98 :=
  Opn.struct (proj := fun x : S98 => (x.f0, x.f1, x.f2, x.f3)) (Opn.OpnF.cons (f := { name := "Key", type := 9, offset := 0, embedded := false, tag := "", pkgPath := "", byteOffset := 0 }) o9 rfl rfl (Opn.OpnF.cons (f := { name := "Is", type := 4, offset := 1, embedded := false, tag := "", pkgPath := "", byteOffset := 16 }) o4 rfl rfl (Opn.OpnF.cons (f := { name := "Val", type := 9, offset := 2, embedded := false, tag := "", pkgPath := "", byteOffset := 24 }) o9 rfl rfl (Opn.OpnF.one (f := { name := "From", type := 39, offset := 3, embedded := false, tag := "", pkgPath := "", byteOffset := 40 }) o39 rfl rfl)))) Tryd.underlying98 c98 (fun y : ByteArray × Bool × ByteArray × Int => (⟨y.1, y.2.1, y.2.2.1, y.2.2.2⟩ : S98)) (fun _ => rfl)
theorem o40 : Opn.Opn (Kd.slice 101 k101) 40 (fun N xs => xs.length ≤ N ∧ ∀ x ∈ xs, ok101 N x) := Opn.slice o101 Tryd.underlying40 c40
theorem o41 : Opn.Opn (Kd.slice 98 k98) 41 (fun N xs => xs.length ≤ N ∧ ∀ x ∈ xs, ok98 N x) := Opn.slice o98 Tryd.underlying41 c41
theorem o22 : Opn.Opn (Kd.slice 9 Kd.string) 22 (fun N xs => xs.length ≤ N ∧ ∀ x ∈ xs, f9 N x) := Opn.slice o9 Tryd.underlying22 c22
set_option maxRecDepth 100000 in
theorem o43 : Opn.Opn k43 43 ok43 :=
  Opn.struct (proj := fun x : S43 => (x.f0, x.f1, x.f2, x.f3, x.f4)) (Opn.OpnF.cons (f := { name := "Kind", type := 3, offset := 0, embedded := false, tag := "", pkgPath := "", byteOffset := 0 }) o3 rfl rfl (Opn.OpnF.cons (f := { name := "Seq", type := 39, offset := 1, embedded := false, tag := "", pkgPath := "", byteOffset := 8 }) o39 rfl rfl (Opn.OpnF.cons (f := { name := "Writes", type := 40, offset := 2, embedded := false, tag := "", pkgPath := "", byteOffset := 16 }) o40 rfl rfl (Opn.OpnF.cons (f := { name := "Answers", type := 41, offset := 3, embedded := false, tag := "", pkgPath := "", byteOffset := 40 }) o41 rfl rfl (Opn.OpnF.one (f := { name := "Keys", type := 22, offset := 4, embedded := false, tag := "", pkgPath := "", byteOffset := 64 }) o22 rfl rfl))))) Tryd.underlying43 c43 (fun y : Int × Int × List S101 × List S98 × List ByteArray => (⟨y.1, y.2.1, y.2.2.1, y.2.2.2.1, y.2.2.2.2⟩ : S43)) (fun _ => rfl)
theorem c46 : Tryd.prog.cellsOf 46 = 1 := by kernel_rfl
theorem c47 : Tryd.prog.cellsOf 47 = 1 := by kernel_rfl
theorem o47 : Opn.Opn (Kd.slice 43 k43) 47 (fun N xs => xs.length ≤ N ∧ ∀ x ∈ xs, ok43 N x) := Opn.slice o43 Tryd.underlying47 c47
set_option maxRecDepth 100000 in
/-- a row of events that came in -/
theorem events_arg {H : Type} {enc : TypeId × Value → H} {W : World} {b0 : Nat} {v : Value} {d : DataW H} {ps : List MemPlace} (hval : Value.okWide Tryd.prog W .any b0 47 v) (h : DataW.Trod enc Tryd.prog W 0 (fun _ => true) true 47 v d ps) :
    ∃ l A c, v = .slice A l.length c ∧ l.length ≤ c ∧ k43.C W A l.length l ∧ l.length ≤ Rows.uptoBulk d ∧ ∀ x ∈ l, ok43 (Rows.uptoBulk d) x := by
  obtain ⟨a0, len, cap, rfl⟩ := okWide_slice Tryd.underlying47 hval
  obtain ⟨fuel, hf⟩ := h
  obtain ⟨x, ⟨A, c, hv, hc, hC⟩, hx⟩ := o47.opn hf
  simp [Value.cells] at hv
  obtain ⟨rfl, rfl, rfl⟩ := hv
  exact ⟨x, _, _, rfl, hc, hC, hx.1, hx.2⟩
end Go.Proofs.YtfaelejeihmgcaaDoor.Lgx
end

section
namespace Go.Proofs.YtfaelejeihmgcaaDoor.Lgx
open Go.ChangeShapes Go.WideShapes Go.ChangeAt Go.RowKit Go.Lib Go.Shelf Go.Proofs.YtfaelejeihmgcaaDoorW.PrintWords Go.Proofs.YtfaelejeihmgcaaDoorW.PrintLast
theorem anyG_ok : ∀ (l : List S43) (i : Nat) (out : List S43), (∀ x ∈ l, EvU x) → i ≤ 15 → out.length = i → (∀ e ∈ out, EvB 60 e) → ∃ r, anyG l i out = some r ∧ r.length ≤ 15 ∧ ∀ e ∈ r, EvB 60 e
  | [], i, out, _, hi, ho, hs => ⟨out, rfl, by omega, hs⟩
  | x :: l, i, out, hx, hi, ho, hs => by
    unfold anyG
    split
    · obtain ⟨r, hr, he⟩ := short_ev x (hx x (by simp)) 1000 (by decide)
      rw [hr, Option.bind_some]
      exact anyG_ok l (i + 1) _ (fun y hy => hx y (by simp [hy])) (by omega) (by rw [len_snoc, ho]) (le_snoc hs he)
    · exact ⟨out, rfl, by omega, hs⟩
theorem LedgerAny.walk (l : List S43) (N : Nat) (A : Option Addr) (c : Nat) (W : World) (hC : Kd.C k43 W A l.length l) (hc : l.length ≤ c) (hl : ∀ x ∈ l, ok43 N x) :
    Calls Tryd.prog 12 #[.slice A l.length c] W fun e w' => e = .returned (.bool true) ∧ Below W.heap.size W w' := by
  have u32 : ∀ {v : Int}, (Lit.int .u32 v).wf = true → 0 ≤ v ∧ v ≤ 4294967295 := fun {v} h => by
    simp [Lit.wf, IntKind.min, IntKind.max, IntKind.signed, IntKind.bits] at h
    omega
  obtain ⟨x, hx, h15, hB⟩ := anyG_ok l 0 [] (fun y hy => by
    obtain ⟨_, g1, _, ⟨_, g3⟩, _⟩ := hl y hy
    exact ⟨(u32 g1).1, (u32 g1).2, fun z hz => u32 (g3 z hz).2.2.2⟩) (by decide) rfl (fun y hy => by simp at hy)
  have h30 : x.length ≤ 30 := by omega
  exact LedgerAny_walk A c l W hC hc x _ _ _ _ _ _ 1000 hx (replay_f h30 hB) (replayR_f h30 hB) (rising_f x h30 1000 (by decide)) (refrising_f x h30 1000 (by decide)) rfl (by omega)
    (fun e he => by have := (hB e he).n2; omega) (fun e he => by have := (hB e he).n3; omega)
def laidThree : List (String × DataW Unit) := [("math/bits.deBruijn32tab", Rows.laid_math_bits_deBruijn32tab), ("math/bits.deBruijn64tab", Rows.laid_math_bits_deBruijn64tab), ("internal/strconv.uint64pow10", Rows.laid_internal_strconv_uint64pow10)]
theorem three_met (os : Os) (args : Array Value) : laidMetH Tryd.prog laidThree ((World.laidAll Tryd.prog os laidThree).forCall (fun _ _ => 0) ⟨#[], args, []⟩).memory := by
  rw [MakeChecks.laidMetH_plain _ _ _ (by kernel_rfl)]
  exact laidMet_laidAll _ (by kernel_rfl) (by kernel_rfl)
end Go.Proofs.YtfaelejeihmgcaaDoor.Lgx
end
