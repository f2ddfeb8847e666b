/-
  ledger.hex and ledger.decimal by hand, in the form of the printed functions; strings.Join and the reference's Hex under this namespace's names.
-/
import Derived.Test.YtfaelejeihmgcaaDoorTabsL
import Derived.Test.YtfaelejeihmgcaaDoorShelfL
import Derived.Test.YtfaelejeihmgcaaDoorBld
import Derived.Test.YtfaelejeihmgcaaDoorHandE
import Derived.Test.YtfaelejeihmgcaaDoorHandF
import Derived.Lib.AppendIntMem
import Derived.Lib.Walk
import Derived.BigCall
import Derived.BigGuard
namespace Go.Proofs.YtfaelejeihmgcaaDoor.Lgx
open Go.RowKit Go.Sort Go.Proofs.YtfaelejeihmgcaaDoorW.PrintWords Go.Proofs.YtfaelejeihmgcaaDoorW.PrintLast

abbrev strings_Join.f (l0 : List ByteArray) (a1 : ByteArray) : Option ByteArray := Wd.strings_Join.f l0 a1
theorem strings_Join.calls (A0 : Option Addr) (c0 : Nat) (l0 : List ByteArray) (a1 : ByteArray) (r : ByteArray) (w : World) (hr0 : Kd.C Kd.string w A0 l0.length l0) (hc0 : l0.length ≤ c0) (h : strings_Join.f l0 a1 = some r) :
    Calls Tryd.prog 62 #[.slice A0 l0.length c0, .string a1] w fun e w' => e = .returned (.string r) ∧ Below w.heap.size w w' := Wd.strings_Join.calls A0 c0 l0 a1 r w hr0 hc0 h
abbrev cachepotref3_Hex.f (a0 : ByteArray) : Option ByteArray := Wd.cachepotref3_Hex.f a0
theorem cachepotref3_Hex.calls (a0 : ByteArray) (r : ByteArray) (w : World) (h : cachepotref3_Hex.f a0 = some r) :
    Calls Tryd.prog 61 #[.string a0] w fun e w' => e = .returned (.string r) ∧ Below w.heap.size w w' := Wd.cachepotref3_Hex.calls a0 r w h

/-! ### ledger.hex -/
def ledger_hex.f (a0 : ByteArray) : Option ByteArray := if a0.size ≤ 1099511627776 then some ⟨(Wd.hexB a0).toArray⟩ else none

set_option maxHeartbeats 4000000 in
set_option maxRecDepth 100000 in
theorem ledger_hex.calls (a0 : ByteArray) (r : ByteArray) (w : World) (h : ledger_hex.f a0 = some r) :
    Calls Tryd.prog 65 #[.string a0] w fun e w' => e = .returned (.string r) ∧ Below w.heap.size w w' := by
  have hs : a0.size ≤ 1099511627776 := by
    unfold ledger_hex.f at h
    split at h
    · assumption
    · cases h
  have hr : Aside0 (⟨(Wd.hexB a0).toArray⟩ = r) := ⟨by unfold ledger_hex.f at h; rw [if_pos hs] at h; exact Option.some.inj h⟩
  clear h
  by_cases h0 : a0.size = 0
  · have e0 : (a0.toList == ([] : List UInt8)) = true := by
      rw [Lib.toList_data, beq_iff_eq, ← List.length_eq_zero_iff, ← Lib.size_eq]; exact h0
    have e1 : a0.toList.isEmpty = true := by
      rw [Lib.toList_data, List.isEmpty_iff, ← List.length_eq_zero_iff, ← Lib.size_eq]; exact h0
    have H0 := Lib.hid h0
    clear h0
    go_enter Tryd.func65, Tryd.ntmps65
    go_wp2
    go_ret
    exact ⟨Wd.ret_strF (by rw [← hr.out, Wd.hexB, if_pos H0.out]), Below.refl _ _⟩
  · have e1 : a0.toList.isEmpty = false := by
      rw [Lib.toList_data]
      rw [Lib.size_eq] at h0
      cases hl : a0.data.toList with
      | nil => rw [hl] at h0; simp at h0
      | cons => rfl
    have hF := Bld.Is.fresh w
    go_enter Tryd.func65, Tryd.ntmps65
    go_wp2
    go_loopw [9] (fun i wr => ∃ (k : Nat) (v : Value), k ≤ a0.size ∧ i = .int .i64 k ∧ Bld.Is w.heap.size w.heap.size v ((a0.data.toList.take k).flatMap Wd.hex1) wr ∧ Below w.heap.size w wr) (fun i _ => a0.size - (intOf i).toNat)
    case atStart => exact ⟨0, _, Nat.zero_le _, rfl, hF, below_alloc (Below.refl _ _) _⟩
    case round =>
      clear hF
      obtain ⟨k, v, hk, rfl, hI, hbw⟩ := hrel
      by_cases hlt : k < a0.size
      · have hc255 := a0[k].toNat_lt
        have ix1 : ∀ W : World, (Instr.index 9 (.string Wd.DIGF) (.int .u8 (((a0[k].toNat : Nat) : Int) / 16))).run Tryd.prog W = .ok (.int .u8 ((Wd.hexD (a0[k].toNat / 16)).toNat : Int)) W := fun W => Wd.index_dig _ (by omega) _ (by omega) W
        have ix2 : ∀ W : World, (Instr.index 9 (.string Wd.DIGF) (.int .u8 (((a0[k].toNat : Nat) : Int) % 16))).run Tryd.prog W = .ok (.int .u8 ((Wd.hexD (a0[k].toNat % 16)).toNat : Int)) W := fun W => Wd.index_dig _ (by omega) _ (by omega) W
        have hbe := hbw.size
        have hstep : (a0.data.toList.take k).flatMap Wd.hex1 ++ [Wd.hexD (a0[k].toNat / 16)] ++ [Wd.hexD (a0[k].toNat % 16)] = (a0.data.toList.take (k + 1)).flatMap Wd.hex1 := by
          rw [List.take_succ_eq_append_getElem (by rw [← Lib.size_eq]; exact hlt), List.flatMap_append, List.append_assoc]
          congr 1
        have hll : ((a0.data.toList.take k).flatMap Wd.hex1).length ≤ 2199023255552 := by
          rw [Wd.hex1s_length]
          have := List.length_take_le k a0.data.toList
          omega
        have Hstep := Lib.hid hstep
        clear hstep
        have step1 := Bld.writeByte w.heap.size w.heap.size v _ (Wd.hexD (a0[k].toNat / 16)) wr hI (by omega) hbe
        have hl2 : ((a0.data.toList.take k).flatMap Wd.hex1 ++ [Wd.hexD (a0[k].toNat / 16)]).length + 1 ≤ 140737488355328 := by
          rw [List.length_append, List.length_singleton]; omega
        have step2 := fun w2 v2 hI2 hbe3 => Bld.writeByte w.heap.size w.heap.size v2 _ (Wd.hexD (a0[k].toNat % 16)) w2 hI2 hl2 hbe3
        clear hll hl2
        go_wp2_with fail
        refine step1.mono ?_
        rintro e w2 ⟨rfl, v2, hI2, hb2, _⟩
        have hb3 := hbw.trans hb2
        have hbe3 := hb3.size
        go_wp2_with fail
        refine (step2 w2 v2 hI2 hbe3).mono ?_
        rintro e w4 ⟨rfl, v4, hI4, hb4, _⟩
        rw [Hstep.out] at hI4
        go_wp2
        go_roundw
        case rel => exact ⟨k + 1, v4, hlt, by simp, hI4, hb3.trans hb4⟩
        case measure => simp [intOf]; omega
      · have hke : k = a0.size := by omega
        subst hke
        have hend : (⟨((a0.data.toList.take a0.size).flatMap Wd.hex1).toArray⟩ : ByteArray) = ⟨(Wd.hexB a0).toArray⟩ := by
          rw [Wd.hexB, if_neg h0, List.take_of_length_le (by rw [← Lib.size_eq]; exact Nat.le_refl _)]
        have Hend := Lib.hid hend
        clear hend
        go_wp2_with fail
        refine (Bld.string w.heap.size w.heap.size v _ wr hI hbw.size).mono ?_
        rintro e w2 ⟨rfl, hb2⟩
        go_wp2
        go_ret
        exact ⟨Wd.ret_strF (Hend.out.trans hr.out), hbw.trans hb2⟩

/-- a number's digits -/
def decB (v : Int) : ByteArray := ⟨(Lib.decDigits v.toNat).toArray⟩
def ledger_decimal.f (a0 : Int) : Option ByteArray := if 0 ≤ a0 ∧ a0 ≤ 4294967295 then some (decB a0) else none

set_option maxHeartbeats 6400000 in
set_option maxRecDepth 100000 in
theorem formatUint (u : Nat) (hu64 : u < 18446744073709551616) (w : World) (hT : Tabs w) :
    Calls Tryd.prog 118 #[.int .u64 (u : Int), .int .i64 10] w fun e w' => e = .returned (.string ⟨(Lib.decDigits u).toArray⟩) ∧ Below w.heap.size w w' := by
  by_cases hs : u < 100
  · have hsI : (u : Int) < 100 := by omega
    go_enter Tryd.func118, Tryd.ntmps118
    go_wp2_with fail
    refine (Tryd.internal_strconv_small u hs _).mono ?_
    rintro e w' ⟨rfl, rfl⟩
    go_wp2
    go_ret
    exact ⟨rfl, Below.refl _ _⟩
  · have hu1 : 1 ≤ u := by omega
    have hnd20 : Lib.nDigits u ≤ 20 := by have := Lib.numDigits_eq u hu1 hu64; split at this <;> omega
    have hal : Tryd.prog.arrayLen 170 = 24 := by kernel_rfl
    have hsl : ∀ W, (Instr.sliceAt 170 (.pointer (some ⟨w.heap.size, 0, none⟩)) none (some (.int .i64 (Lib.nDigits u : Int))) none).run Tryd.prog W = .ok (.slice (some ⟨w.heap.size, 0, none⟩) (Lib.nDigits u) 24) W := fun W => by
      rw [run_sliceAt_array_h W 170 ⟨w.heap.size, 0, none⟩ (by kernel_rfl) .i64 (Lib.nDigits u : Int) (by omega) (by rw [hal]; omega), hal]
      go_simp
    have hH0 := Lib.holds_zero0 w 170 (Lib.nDigits u) (by omega)
    have hfmt := Tryd.internal_strconv_formatBase10 w.heap.size 0 24 u (Array.replicate (Lib.nDigits u) 0) (w.alloc (.cells Lib.zeros24 170)) hH0 (by rw [Array.size_replicate]; exact Lib.lt_pow_nDigits u) hu64 (by rw [Array.size_replicate]; omega)
    rw [Array.size_replicate] at hfmt
    have HH0 := Lib.hid hH0
    have iu : (100 : Int) ≤ (u : Int) := by omega
    clear hH0 hal
    go_enter Tryd.func118, Tryd.ntmps118
    go_wp2_with fail
    refine (Tryd.internal_strconv_numDigits u hu1 hu64 _ (Lib.tabIs_alloc hT.p _)).mono ?_
    rintro e w' ⟨rfl, rfl⟩
    go_wp2_with fail
    refine hfmt.mono ?_
    rintro e w' ⟨rfl, k, v', dk, rfl, hF⟩
    have hcv : (convert 32 9 (.slice (some ⟨w.heap.size, 0, none⟩) (Lib.nDigits u) 24)).run Tryd.prog ((putRow (fun (b : UInt8) => Value.int .u8 (b.toNat : Int)) (w.alloc (.cells Lib.zeros24 170)) w.heap.size 0 dk).drewN k) = .ok (.string ⟨(Lib.decDigits u).toArray⟩) ((putRow (fun (b : UInt8) => Value.int .u8 (b.toNat : Int)) (w.alloc (.cells Lib.zeros24 170)) w.heap.size 0 dk).drewN k) := by
      have h := run_convert_bytes_back (P := Tryd.prog) ((putRow (fun (b : UInt8) => Value.int .u8 (b.toNat : Int)) (w.alloc (.cells Lib.zeros24 170)) w.heap.size 0 dk).drewN k) 32 9 5 ⟨w.heap.size, 0, none⟩ 24 (Lib.decDigits u) Tryd.underlying32 Tryd.underlying5 Tryd.underlying9 (fun j hj => by
        rw [Lib.row_is_numeral hF j hj, Lib.add_plain, World.cell?_drewN]
        exact cell?_putRow (fun (b : UInt8) => Value.int .u8 (b.toNat : Int)) _ w.heap.size 0 _ dk HH0.out (by rw [hF.size, Array.size_replicate]) j (by rw [hF.size]; rw [Lib.decDigits_length] at hj; exact hj))
      rw [Lib.decDigits_length] at h
      exact h
    obtain ⟨os, eo⟩ := Lib.fin_at w (.cells Lib.zeros24 170) dk k 0
    have hbel : Below w.heap.size w ((putRow (fun (b : UInt8) => Value.int .u8 (b.toNat : Int)) (w.alloc (.cells Lib.zeros24 170)) w.heap.size 0 dk).drewN k) := by rw [eo]; exact Lib.below_grow w.heap.size w (Nat.le_refl _) k os
    clear eo hfmt HH0
    generalize (putRow (fun (b : UInt8) => Value.int .u8 (b.toNat : Int)) (w.alloc (.cells Lib.zeros24 170)) w.heap.size 0 dk).drewN k = W2 at hcv hbel ⊢
    go_wp2
    go_ret
    exact ⟨rfl, hbel⟩

set_option maxRecDepth 100000 in
theorem strFormatUint (u : Nat) (hu64 : u < 18446744073709551616) (w : World) (hT : Tabs w) :
    Calls Tryd.prog 98 #[.int .u64 (u : Int), .int .i64 10] w fun e w' => e = .returned (.string ⟨(Lib.decDigits u).toArray⟩) ∧ Below w.heap.size w w' := by
  go_enter Tryd.func98, Tryd.ntmps98
  go_wp2_with fail
  refine (formatUint u hu64 _ hT).mono ?_
  rintro e w' ⟨rfl, hb⟩
  go_wp2
  go_ret
  exact ⟨rfl, hb⟩

set_option maxRecDepth 100000 in
theorem ledger_decimal.calls (a0 : Int) (r : ByteArray) (w : World) (h : ledger_decimal.f a0 = some r) (hT : Tabs w) :
    Calls Tryd.prog 64 #[.int .u32 a0] w fun e w' => e = .returned (.string r) ∧ Below w.heap.size w w' := by
  unfold ledger_decimal.f at h
  split at h
  · rename_i hb
    obtain rfl := Option.some.inj h
    obtain ⟨u, rfl⟩ : ∃ u : Nat, a0 = u := ⟨a0.toNat, by omega⟩
    have hu : u < 4294967296 := by omega
    have hw : IntKind.u64.wrap (u : Int) = (u : Int) := by rw [IntKind.wrap_u64]; omega
    go_enter Tryd.func64, Tryd.ntmps64
    go_wp2_with fail
    refine (strFormatUint u (by omega) _ hT).mono ?_
    rintro e w' ⟨rfl, hb⟩
    go_wp2
    go_ret
    exact ⟨rfl, hb⟩
  · cases h

end Go.Proofs.YtfaelejeihmgcaaDoor.Lgx
