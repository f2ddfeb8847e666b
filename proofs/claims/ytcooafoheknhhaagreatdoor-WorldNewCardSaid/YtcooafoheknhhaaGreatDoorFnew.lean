/- flash.New by hand. -/
import Derived.Test.YtcooafoheknhhaaGreatDoorPgm1
import Derived.Test.YtcooafoheknhhaaGreatDoorShelf
namespace Go.Proofs.YtcooafoheknhhaaGreatDoor.Pgm
open Go Go.RowKit Go.Proofs.YtcooafoheknhhaaGreatDoorW.PrintWords Go.Proofs.YtcooafoheknhhaaGreatDoorW.PrintLast Go.Proofs.YtcooafoheknhhaaGreatDoorW.PrintMore

def rightB (p q r : Int) : Bool := decide (32 ≤ p ∧ p ≤ 128 ∧ 3 ≤ q ∧ q ≤ 10 ∧ 4 ≤ r ∧ r ≤ 12)
theorem right_f (p q r : Int) : geom_Right.f p q r = some (rightB p q r) := by
  unfold geom_Right.f rightB
  repeat' split
  all_goals (simp only [Option.some.injEq]; first | (rw [eq_comm, decide_eq_false_iff_not]; omega) | (rw [decide_eq_decide]; omega))
def sizeB (p q r : Int) : Int := if rightB p q r = true then wrap64 (wrap64 (p * q) * r) else 0
theorem bytes_f (p q r : Int) : geom_Bytes.f p q r = some (sizeB p q r) := by
  unfold geom_Bytes.f sizeB
  rw [right_f]
  simp only [Option.bind_some]
  split <;> rfl

/-- a geom in a box -/
def gBox (p q r : Int) : Obj := .cells #[.int .i64 p, .int .i64 q, .int .i64 r] 73 (0, 0)
theorem gBox_cells {W : World} {b : Nat} {p q r : Int} (h : W.heap[b]? = some (gBox p q r)) :
    W.cell? ⟨b, 0, none⟩ = some (.int .i64 p) ∧ W.cell? ⟨b, 1, none⟩ = some (.int .i64 q) ∧ W.cell? ⟨b, 2, none⟩ = some (.int .i64 r) := by
  refine ⟨?_, ?_, ?_⟩ <;> simp [World.cell?, h, gBox]
theorem right_calls (p q r : Int) (w : World) : Calls Tryz.prog 106 #[.agg #[.int .i64 p, .int .i64 q, .int .i64 r]] w fun e w' => e = .returned (.bool (rightB p q r)) ∧ Below w.heap.size w w' :=
  geom_Right.calls p q r _ w (right_f p q r)
theorem bytes_calls (p q r : Int) (w : World) : Calls Tryz.prog 155 #[.agg #[.int .i64 p, .int .i64 q, .int .i64 r]] w fun e w' => e = .returned (.int .i64 (sizeB p q r)) ∧ Below w.heap.size w w' :=
  geom_Bytes.calls p q r _ w (bytes_f p q r)

set_option maxHeartbeats 2000000 in
set_option maxRecDepth 100000 in
theorem New_bad (p q r : Int) (s : ByteArray) (w : World) (h : rightB p q r = false ∨ sizeB p q r < (s.size : Int)) :
    Calls Tryz.prog 88 #[.agg #[.int .i64 p, .int .i64 q, .int .i64 r], .string s] w fun e w' => e = .returned (.tuple #[.pointer none, .int .i64 1]) ∧ Below w.heap.size w w' := by
  go_enter Tryz.func88, Tryz.ntmps88
  go_wp2_with fail
  refine (right_calls p q r _).mono ?_
  rintro e w1 ⟨rfl, hb1⟩
  have hk1 : w1.heap[w.heap.size]? = some (gBox p q r) := by rw [hb1.block _ (by simp)]; exact heap_alloc_new w _
  have hw1 : Below w.heap.size w w1 := below_then (below_alloc (Below.refl _ _) _) (by simp) hb1
  cases hr : rightB p q r
  · go_wp2_with fail
    go_ret2
    exact ⟨rfl, hw1⟩
  · have h2 : sizeB p q r < (s.size : Int) := by rcases h with h | h; (rw [hr] at h; cases h); exact h
    have d2 : decide (sizeB p q r < (s.size : Int)) = true := decide_eq_true h2
    obtain ⟨k0, k1, k2⟩ := gBox_cells hk1
    go_wp2_with fail
    refine (bytes_calls p q r _).mono ?_
    rintro e w2 ⟨rfl, hb2⟩
    have hw2 : Below w.heap.size w w2 := below_then hw1 hw1.size hb2
    go_wp2_with fail
    go_ret2
    exact ⟨rfl, hw2⟩

theorem rep_len : ∀ n, (Lib.repeatL [255] n).length = n
  | 0 => rfl
  | n + 1 => by rw [Lib.repeatL, List.length_append, rep_len n]; simp; omega
/-- an image's bytes, and blank ones -/
def imgB (p q r : Int) (s : ByteArray) : ByteArray := s ++ ⟨(Lib.repeatL [255] ((sizeB p q r).toNat - s.size)).toArray⟩
/-- A new device in block f, its bytes in block b. -/
structure NewAt (B : Nat) (w : World) (f b cap : Nat) (p q r : Int) (G : ByteArray) : Prop where
  hf : B ≤ f
  hb0 : B ≤ b
  flash : w.heap[f]? = some (Obj.cells #[.int .i64 p, .int .i64 q, .int .i64 r, .slice (some ⟨b, 0, none⟩) G.size cap, .slice none 0 0, .bool false, .bool false, .int .i64 0] 267 (0, 0))
  bytes : ∀ j, j < G.size → w.cell? ⟨b, j, none⟩ = some (.int .u8 (G.data.toList.getD j 0).toNat)
  hb : b < w.heap.size
set_option maxHeartbeats 2000000 in
set_option maxRecDepth 100000 in
theorem New_good (p q r : Int) (s : ByteArray) (w : World) (hr : rightB p q r = true) (hs : (s.size : Int) ≤ sizeB p q r) :
    Calls Tryz.prog 88 #[.agg #[.int .i64 p, .int .i64 q, .int .i64 r], .string s] w fun e w' => ∃ f b cap, e = .returned (.tuple #[.pointer (some ⟨f, 0, none⟩), .int .i64 0]) ∧ NewAt w.heap.size w' f b cap p q r (imgB p q r s) ∧ Below w.heap.size w w' := by
  have hz : sizeB p q r ≤ 15360 := by
    have h := of_decide_eq_true hr
    have h1 : p * q ≤ 128 * 10 := Int.mul_le_mul (by omega) (by omega) (by omega) (by omega)
    have h0 : 0 ≤ p * q := Int.mul_nonneg (by omega) (by omega)
    have h2 : p * q * r ≤ 128 * 10 * 12 := Int.mul_le_mul h1 (by omega) (by omega) (by omega)
    have h3 : 0 ≤ p * q * r := Int.mul_nonneg h0 (by omega)
    have e1 : wrap64 (p * q) = p * q := IntWalk.wrap64_in _ (by omega)
    have e2 : wrap64 (p * q * r) = p * q * r := IntWalk.wrap64_in _ (by omega)
    unfold sizeB
    rw [if_pos hr, e1, e2]; omega
  obtain ⟨z, hzz⟩ : ∃ z : Nat, sizeB p q r = (z : Int) := ⟨(sizeB p q r).toNat, by omega⟩
  go_enter Tryz.func88, Tryz.ntmps88
  go_wp2_with fail
  refine (right_calls p q r _).mono ?_
  rintro e w1 ⟨rfl, hb1⟩
  have hk1 : w1.heap[w.heap.size]? = some (gBox p q r) := by rw [hb1.block _ (by simp)]; exact heap_alloc_new w _
  have hw1 : Below w.heap.size w w1 := below_then (below_alloc (Below.refl _ _) _) (by simp) hb1
  rw [hr]
  rw [hzz] at hs hz
  have hs' : s.size ≤ z := by omega
  have d2 : decide ((z : Int) < (s.size : Int)) = false := decide_eq_false (by omega)
  obtain ⟨k0, k1, k2⟩ := gBox_cells hk1
  go_wp2_with fail
  refine (bytes_calls p q r _).mono ?_
  rintro e w2 ⟨rfl, hb2⟩
  have hk2 : w2.heap[w.heap.size]? = some (gBox p q r) := by rw [hb2.block _ (by have := hw1.size; have h9 := hb1.size; simp at h9; omega)]; exact hk1
  have hw2 : Below w.heap.size w w2 := below_then hw1 hw1.size hb2
  obtain ⟨k0', k1', k2'⟩ := gBox_cells hk2
  rw [hzz]
  go_wp2_with fail
  refine (bytes_calls p q r _).mono ?_
  rintro e w3 ⟨rfl, hb3⟩
  have hk3 : w3.heap[w.heap.size]? = some (gBox p q r) := by rw [hb3.block _ (by have := hw2.size; have h9 := hb1.size; have h8 := hb2.size; simp at h9; omega)]; exact hk2
  have hw3 : Below w.heap.size w w3 := below_then hw2 hw2.size hb3
  rw [hzz]
  go_wp2_with fail
  have em : ((z : Int) - (s.size : Int)) = ((z - s.size : Nat) : Int) := by omega
  rw [em]
  refine (Tryz.strings_Repeat ⟨#[255]⟩ (z - s.size) w3 (by omega) (by show 1 * _ ≤ _; omega)).mono ?_
  rintro e w4 ⟨rfl, hb4⟩
  have hk4 : w4.heap[w.heap.size]? = some (gBox p q r) := by rw [hb4.block _ (by have := hw3.size; have h9 := hb1.size; have h8 := hb2.size; have h7 := hb3.size; simp at h9; omega)]; exact hk3
  have hw4 : Below w.heap.size w w4 := below_then hw3 hw3.size hb4
  obtain ⟨k04, k14, k24⟩ := gBox_cells hk4
  have hD : s ++ ⟨(Lib.repeatL [255] (z - s.size)).toArray⟩ = imgB p q r s := by unfold imgB; rw [hzz, Int.toNat_natCast]
  have hDs : (imgB p q r s).size = z := by
    rw [← hD, ByteArray.size_append]
    have : (⟨(Lib.repeatL [255] (z - s.size)).toArray⟩ : ByteArray).size = (Lib.repeatL [255] (z - s.size)).length := rfl
    rw [this, rep_len]; omega
  have hov : (9223372036854775807 < s.size + (Lib.repeatL [255] (z - s.size)).length) = False := eq_false (by rw [rep_len]; omega)
  obtain ⟨G, hG⟩ : ∃ G, imgB p q r s = G := ⟨_, rfl⟩
  rw [hG] at hD hDs
  go_wp2_with fail
  rw [Lib.run_convert_string_bytes w4 9 159 5 G Tryz.underlying9 Tryz.underlying159 Tryz.underlying5]
  simp only [Result.andThen]
  rw [Oper.upon_value]
  obtain ⟨w5, hw5⟩ : ∃ w5, Lib.bytesWorld w4 5 G = w5 := ⟨_, rfl⟩
  have hz5 : w5.heap.size = w4.heap.size + 1 := by rw [← hw5]; exact Lib.bytesWorld_size w4 5 G
  have hlt4 : w.heap.size < w4.heap.size := by have := hw3.size; have h9 := hb1.size; have h8 := hb2.size; have h7 := hb3.size; have h6 := hb4.size; simp at h9; omega
  have hk5 : w5.heap[w.heap.size]? = some (gBox p q r) := by rw [← hw5, Lib.bytesWorld_at_old _ _ _ _ hlt4]; exact hk4
  have hb5 : Below w.heap.size w w5 := by
    refine ⟨?_, ?_, ?_, ?_, fun k hk => ?_⟩
    · rw [← hw5]; exact hw4.os
    · rw [← hw5]; exact hw4.tape
    · rw [← hw5]; exact hw4.output
    · rw [hz5]; have := hw4.size; omega
    · rw [← hw5, Lib.bytesWorld_at_old _ _ _ _ (by omega)]; exact hw4.block k hk
  have hc5 : ∀ j, j < G.size → w5.cell? ⟨w4.heap.size, j, none⟩ = some (.int .u8 (G.data.toList.getD j 0).toNat) := fun j hj => by rw [← hw5]; exact Lib.bytesWorld_cell w4 5 G j hj
  obtain ⟨cap, hcap⟩ : ∃ cap, grownCap w4 G.size 0 5 = cap := ⟨_, rfl⟩
  obtain ⟨k05, k15, k25⟩ := gBox_cells hk5
  rw [hw5, hcap]
  clear hw5 hcap hD
  go_wp2_with fail
  go_ret2
  have hn := heap_alloc_new w5 (.cells #[.int .i64 p, .int .i64 q, .int .i64 r, .slice (some ⟨w4.heap.size, 0, none⟩) z cap, .slice none 0 0, .bool false, .bool false, .int .i64 0] 267)
  refine ⟨w4.heap.size + 1, w4.heap.size, cap, rfl, ⟨by omega, by omega, ?_, ?_, ?_⟩, below_alloc hb5 _⟩
  · rw [hG, hDs, ← hz5]; exact hn
  · rw [hG]
    intro j hj
    have h9 : (w5.alloc (.cells #[.int .i64 p, .int .i64 q, .int .i64 r, .slice (some ⟨w4.heap.size, 0, none⟩) z cap, .slice none 0 0, .bool false, .bool false, .int .i64 0] 267)).cell? ⟨w4.heap.size, j, none⟩ = w5.cell? ⟨w4.heap.size, j, none⟩ := by
      simp only [World.cell?, World.alloc]
      rw [Array.getElem?_push, if_neg (by omega)]
    rw [h9]; exact hc5 j hj
  · simp; omega
end Go.Proofs.YtcooafoheknhhaaGreatDoor.Pgm
