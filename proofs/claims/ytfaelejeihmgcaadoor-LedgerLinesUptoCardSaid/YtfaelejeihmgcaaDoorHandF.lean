/-
  The reference's Hex by hand, in the form of the printed functions.
-/
import Derived.Test.YtfaelejeihmgcaaDoorWd0
import Derived.Test.YtfaelejeihmgcaaDoorSpecW
import Derived.StillTailTactics
import Derived.Deep.LoopGhost
import Derived.Outline
import Derived.Lib.Hide
import Derived.Lib.UnsafeStr
import Derived.IntWalk
import Derived.Deep.RegionHeld3
import Derived.Deep.AppendLies
import Derived.WalkSpells
import Derived.Tactics2
import Derived.Laws.Pointers
namespace Go.Proofs.YtfaelejeihmgcaaDoor.Wd
open Go.RowKit Go.Proofs.YtfaelejeihmgcaaDoorW.PrintWords Go.Proofs.YtfaelejeihmgcaaDoorW.PrintLast

def hex1 (c : UInt8) : List UInt8 := [hexD (c.toNat / 16), hexD (c.toNat % 16)]
def hexB (s : ByteArray) : List UInt8 := if s.size = 0 then [45] else s.data.toList.flatMap hex1
def cachepotref3_Hex.f (a0 : ByteArray) : Option ByteArray := if a0.size ≤ 1099511627776 then some ⟨(hexB a0).toArray⟩ else none

theorem ret_strF {a b : ByteArray} (h : a = b) : Ending.returned (.string a) = .returned (.string b) := by rw [h]

theorem hex1s_length (l : List UInt8) : (l.flatMap hex1).length = 2 * l.length := by
  induction l with
  | nil => rfl
  | cons c l ih => rw [List.flatMap_cons, List.length_append, ih]; simp [hex1]; omega

abbrev DIGF : ByteArray := ⟨#[48, 49, 50, 51, 52, 53, 54, 55, 56, 57, 97, 98, 99, 100, 101, 102]⟩
theorem digF_at : ∀ h : Fin 16, DIGF[h.val]? = some (hexD h.val) := by decide
theorem index_dig (n : Nat) (hn : n < 16) (x : Int) (hx : x = n) (W : World) : (Instr.index 9 (.string DIGF) (.int .u8 x)).run Tryd.prog W = .ok (.int .u8 ((hexD n).toNat : Int)) W := by
  subst hx
  have h1 : (0 : Int) ≤ (n : Int) ∧ (n : Int) < (DIGF.size : Int) := ⟨by omega, by show (n : Int) < (16 : Nat); omega⟩
  have e := digF_at ⟨n, hn⟩
  have h2 : n < DIGF.size := hn
  rw [getElem?_pos DIGF n h2] at e
  have e3 : DIGF[n] = hexD n := Option.some.inj e
  rw [run_index_string W 9 DIGF .u8 (n : Int) Tryd.underlying9, dif_pos h1]
  have e2 : ((n : Nat) : Int).toNat = n := by omega
  simp only [e2, e3]

set_option maxHeartbeats 4000000 in
set_option maxRecDepth 100000 in
theorem cachepotref3_Hex.calls (a0 : ByteArray) (r : ByteArray) (w : World) (h : cachepotref3_Hex.f a0 = some r) :
    Calls Tryd.prog 61 #[.string a0] w fun e w' => e = .returned (.string r) ∧ Below w.heap.size w w' := by
  have hs : a0.size ≤ 1099511627776 := by
    unfold cachepotref3_Hex.f at h
    split at h
    · assumption
    · cases h
  have hr : Aside0 (⟨(hexB a0).toArray⟩ = r) := ⟨by unfold cachepotref3_Hex.f at h; rw [if_pos hs] at h; exact Option.some.inj h⟩
  clear h
  obtain ⟨i0, hi, hz0, hz1, hz2⟩ := info_parts info5
  by_cases h0 : a0.size = 0
  · have e0 : (a0.toList == ([] : List UInt8)) = true := by
      rw [Lib.toList_data, beq_iff_eq, ← List.length_eq_zero_iff, ← Lib.size_eq]; exact h0
    have e1 : a0.toList.isEmpty = true := by
      rw [Lib.toList_data, List.isEmpty_iff, ← List.length_eq_zero_iff, ← Lib.size_eq]; exact h0
    have H0 := Lib.hid h0
    clear h0
    go_enter Tryd.func61, Tryd.ntmps61
    go_wp2
    go_ret
    exact ⟨ret_strF (by rw [← hr.out, hexB, if_pos H0.out]), Below.refl _ _⟩
  · have e1 : a0.toList.isEmpty = false := by
      rw [Lib.toList_data]
      rw [Lib.size_eq] at h0
      cases hl : a0.data.toList with
      | nil => rw [hl] at h0; simp at h0
      | cons => rfl
    go_enter Tryd.func61, Tryd.ntmps61
    go_wp2
    go_loopw [3, 4] (fun v i wr => ∃ k : Nat, k ≤ a0.size ∧ i = .int .i64 k ∧ wr.ownsRow w.heap.size 5 1 v (2 * k) (Lib.byteCells ((a0.data.toList.take k).flatMap hex1)) ∧ Below w.heap.size w wr) (fun _ i _ => a0.size - (intOf i).toNat)
    case atStart => exact ⟨0, Nat.zero_le _, rfl, ⟨by simp [Lib.byteCells], .inl ⟨rfl, rfl⟩⟩, Below.refl _ _⟩
    case round =>
      obtain ⟨k, hk, rfl, hown, hbw⟩ := hrel
      by_cases hlt : k < a0.size
      · have hc255 := a0[k].toNat_lt
        have ix1 : ∀ W : World, (Instr.index 9 (.string DIGF) (.int .u8 (((a0[k].toNat : Nat) : Int) / 16))).run Tryd.prog W = .ok (.int .u8 ((hexD (a0[k].toNat / 16)).toNat : Int)) W := fun W => index_dig _ (by omega) _ (by omega) W
        have ix2 : ∀ W : World, (Instr.index 9 (.string DIGF) (.int .u8 (((a0[k].toNat : Nat) : Int) % 16))).run Tryd.prog W = .ok (.int .u8 ((hexD (a0[k].toNat % 16)).toNat : Int)) W := fun W => index_dig _ (by omega) _ (by omega) W
        have eq1 : IntKind.u8.wrap (((a0[k].toNat : Nat) : Int).tdiv 16) = ((a0[k].toNat : Nat) : Int) / 16 := IntWalk.u8_quo _ _ (by omega)
        have eq3 : IntKind.u8.wrap (((a0[k].toNat : Nat) : Int) / 16) = ((a0[k].toNat : Nat) : Int) / 16 := IntWalk.u8_in _ (by omega)
        have eq2 : ((a0[k].toNat : Nat) : Int).tmod 16 = ((a0[k].toNat : Nat) : Int) % 16 := IntWalk.rem_in _ _ (by omega)
        have hbe := hbw.size
        have hstep : Lib.byteCells ((a0.data.toList.take k).flatMap hex1) ++ [.int .u8 ((hexD (a0[k].toNat / 16)).toNat : Int), .int .u8 ((hexD (a0[k].toNat % 16)).toNat : Int)] = Lib.byteCells ((a0.data.toList.take (k + 1)).flatMap hex1) := by
          rw [List.take_succ_eq_append_getElem (by rw [← Lib.size_eq]; exact hlt), List.flatMap_append, Lib.byteCells_append]
          congr 1
        have Hstep := Lib.hid hstep
        clear hstep
        go_wp2_with fail
        go_region_held3 (fun w' => True) (exact trivial)
          ((refine step_append_lies _ (by rfl) _ _ _ (by rfl) w.heap.size 5 i0 _ 1 1 Tryd.underlying32 hi hz0 hz1 hz2 rfl (by omega) u3 (2 * k) _ (by rfl) ((hown.alloc _).drew)
              ⟨wr.heap.size, 0, none⟩ 2 2 [.int .u8 ((hexD (a0[k].toNat / 16)).toNat : Int), .int .u8 ((hexD (a0[k].toNat % 16)).toNat : Int)] (by rfl) (by rfl) (World.news_of_block (cs := #[.int .u8 ((hexD (a0[k].toNat / 16)).toNat : Int), .int .u8 ((hexD (a0[k].toNat % 16)).toNat : Int)]) (t := 5) (fr := (0, 0)) (heap_alloc_new wr _)) (by simp [Value.oneCell'])
              (by omega) (by unfold maxLen; omega) (by omega) (by simp; omega) (wr.heap.size + 1) (by simp) ?_; intro gg cap w1 hown1 hgrow hat hlt1))
        all_goals (
          rw [Hstep.out] at hown1
          have hb1 : Below w.heap.size w w1 := (((hbw.alloc hbe _).drew).grown hgrow (by simp; omega) (fun k hk => (hown.lt k hk).1))
          go_wp2
          go_roundw
          case rel => exact ⟨k + 1, hlt, by simp, hown1, hb1⟩
          case measure => simp [intOf]; omega)
      · have hke : k = a0.size := by omega
        subst hke
        have hnum : Lib.byteCells ((a0.data.toList.take a0.size).flatMap hex1) = nums .u8 (((a0.data.toList.take a0.size).flatMap hex1).map fun b => (b.toNat : Int)) := by
          simp [Lib.byteCells, nums]
        have hstr : strOfNums (((a0.data.toList.take a0.size).flatMap hex1).map fun b => (b.toNat : Int)) = ⟨(hexB a0).toArray⟩ := by
          unfold strOfNums hexB
          rw [if_neg h0, List.take_of_length_le (by rw [← Lib.size_eq]; exact Nat.le_refl _), List.map_map]
          congr 2
          rw [List.map_congr_left (g := id) (fun b _ => by simp), List.map_id]
        have hcv : (convert 32 9 u3).run Tryd.prog wr = .ok (.string ⟨(hexB a0).toArray⟩) wr := by
          rw [hnum] at hown
          rw [own_string Tryd.underlying32 Tryd.underlying5 Tryd.underlying9 hown, hstr]
        clear hnum hstr hown
        go_wp2
        go_ret
        exact ⟨ret_strF hr.out, hbw⟩

end Go.Proofs.YtfaelejeihmgcaaDoor.Wd
