/- Functions on bytes that the plain evaluator does not walk into: what they yield, by their contracts. -/
import Derived.Test.YtcooafoheknhhaaGreatDoorSum
namespace Go.Proofs.YtcooafoheknhhaaGreatDoor.Prm
open Go Go.RowKit Go.Proofs.YtcooafoheknhhaaGreatDoorW.PrintWords Go.Proofs.YtcooafoheknhhaaGreatDoorW.PrintLast Go.Proofs.YtcooafoheknhhaaGreatDoorW.PrintMore
open Go.Ev

/-- Are all bytes 255? -/
def blankB : List UInt8 → Bool
  | [] => true
  | b :: l => if b.toNat = 255 then blankB l else false

theorem blank_l0 (s : List UInt8) (hs : s.length < 4611686018427387904) : ∀ (m i k : Nat), i + m = s.length → frame_Blank.l0 (k + m + 1) ⟨⟨s⟩⟩ (s.length : Int) (i : Int) = some (blankB (s.drop i))
  | 0, i, k, h => by
    have hi : ¬ ((i : Int) < (s.length : Int)) := by omega
    simp only [frame_Blank.l0, if_neg hi]
    rw [List.drop_of_length_le (by omega)]; rfl
  | m + 1, i, k, h => by
    have ih := blank_l0 s hs m (i + 1) k (by omega)
    have hlt : i < s.length := by omega
    have hi : ((i : Int) < (s.length : Int)) := by omega
    have hb := bt_get s i s[i] (List.getElem?_eq_getElem hlt)
    show frame_Blank.l0 ((k + m + 1) + 1) _ _ _ = _
    rw [frame_Blank.l0.eq_2]
    rw [bsize, if_pos hi, if_pos (by omega), if_pos hi, hb, wrap64_up i (by omega), List.drop_eq_getElem_cons hlt]
    simp only [blankB]
    by_cases h2 : s[i].toNat = 255
    · rw [if_pos (by omega), if_pos h2, ih]
    · rw [if_neg (by omega), if_neg h2]
theorem blank_f (s : List UInt8) (hs : s.length < 4611686018427387904) : frame_Blank.f (s.length + 1) ⟨⟨s⟩⟩ = some (blankB s) := by
  have := blank_l0 s hs s.length 0 0 (by omega)
  unfold frame_Blank.f
  rw [bsize]
  simpa using this
theorem rblank_l0 (s : List UInt8) (hs : s.length < 4611686018427387904) : ∀ (m i k : Nat), i + m = s.length → cachepotref1_Blank.l0 (k + m + 1) ⟨⟨s⟩⟩ (i : Int) = some (blankB (s.drop i))
  | 0, i, k, h => by
    have hi : ¬ ((i : Int) < (s.length : Int)) := by omega
    simp only [cachepotref1_Blank.l0]
    rw [bsize, if_neg hi, List.drop_of_length_le (by omega)]; rfl
  | m + 1, i, k, h => by
    have ih := rblank_l0 s hs m (i + 1) k (by omega)
    have hlt : i < s.length := by omega
    have hi : ((i : Int) < (s.length : Int)) := by omega
    have hb := bt_get s i s[i] (List.getElem?_eq_getElem hlt)
    show cachepotref1_Blank.l0 ((k + m + 1) + 1) _ _ = _
    rw [cachepotref1_Blank.l0.eq_2]
    rw [bsize, if_pos hi, if_pos (by omega), hb, wrap64_up i (by omega), List.drop_eq_getElem_cons hlt]
    simp only [blankB]
    by_cases h2 : s[i].toNat = 255
    · rw [if_pos (by omega), if_pos h2, ih]
    · rw [if_neg (by omega), if_neg h2]
theorem rblank_f (s : List UInt8) (hs : s.length < 4611686018427387904) : cachepotref1_Blank.f (s.length + 1) ⟨⟨s⟩⟩ = some (blankB s) := by
  have := rblank_l0 s hs s.length 0 0 (by omega)
  unfold cachepotref1_Blank.f
  simpa using this

theorem rep_set (b : Int) (n j : Nat) (h : j < n) : (List.replicate j b ++ List.replicate (n - j) (0 : Int)).set j b = List.replicate (j + 1) b ++ List.replicate (n - (j + 1)) 0 := by
  have e : n - j = (n - (j + 1)) + 1 := by omega
  rw [e, List.replicate_succ, List.set_append, List.length_replicate, if_neg (Nat.lt_irrefl j), Nat.sub_self, List.set_cons_zero, List.replicate_succ', List.append_assoc]
  rfl
theorem fill_l0 (b : Int) (n : Nat) (hn : n < 4611686018427387904) : ∀ (m j k : Nat), j + m = n → cachepotref1_Fill.l0 (k + m + 1) b (List.replicate j b ++ List.replicate (n - j) 0) (j : Int) = some (strOfNums (List.replicate n b))
  | 0, j, k, h => by
    obtain rfl : j = n := by omega
    simp [cachepotref1_Fill.l0]
  | m + 1, j, k, h => by
    have ih := fill_l0 b n hn m (j + 1) k (by omega)
    have hl : (List.replicate j b ++ List.replicate (n - j) (0 : Int)).length = n := by simp; omega
    show cachepotref1_Fill.l0 ((k + m + 1) + 1) _ _ _ = _
    rw [cachepotref1_Fill.l0.eq_2]
    rw [hl, if_pos (by omega), if_pos (by omega), wrap64_up j (by omega), Int.toNat_natCast, rep_set b n j (by omega), ih]
theorem fill_f (b n : Nat) (hn : n < 281474976710656) : cachepotref1_Fill.f (n + 1) (b : Int) (n : Int) = some (strOfNums (List.replicate n (b : Int))) := by
  have hm : mx (n : Int) 0 = (n : Int) := by unfold mx; split <;> omega
  have := fill_l0 (b : Int) n (by omega) n 0 0 (by omega)
  unfold cachepotref1_Fill.f
  rw [hm, if_pos (by omega), if_pos (by omega)]
  simpa using this

theorem rstep_l0 : ∀ (m k c : Nat), m ≤ 8 → c < 4294967296 → cachepotref1_CrcStep.l0 (k + m + 1) c ((8 - m : Nat) : Int) = some ((crcN m c : Nat) : Int)
  | 0, k, c, _, _ => by simp [cachepotref1_CrcStep.l0, crcN]
  | m + 1, k, c, hm, hc => by
    have ih := rstep_l0 m k (crc1 c) (by omega) (crc1_lt hc)
    have e : wrap64 (((8 - (m + 1) : Nat) : Int) + 1) = ((8 - m : Nat) : Int) := by unfold wrap64; omega
    have hlt : (((8 - (m + 1) : Nat) : Int) < 8) := by omega
    show cachepotref1_CrcStep.l0 ((k + m + 1) + 1) c ((8 - (m + 1) : Nat) : Int) = _
    rw [cachepotref1_CrcStep.l0.eq_2]
    have hd : (Int.tdiv (c : Int) 2) % 4294967296 = ((c / 2 : Nat) : Int) := by
      rw [Int.tdiv_eq_ediv_of_nonneg (by omega)]; omega
    have hr : Int.tmod (c : Int) 2 = ((c % 2 : Nat) : Int) := by
      rw [Int.tmod_eq_emod_of_nonneg (by omega)]; omega
    rw [if_pos hlt, e, hd, hr]
    by_cases h : c % 2 = 1
    · have h1 : (((c % 2 : Nat) : Int) = 1) := by omega
      have hx := bits_xor32 (c / 2) 3988292384 (by omega) (by decide)
      rw [if_pos h1, show (3988292384 : Int) = ((3988292384 : Nat) : Int) from rfl, hx]
      have : crc1 c = c / 2 ^^^ 3988292384 := if_pos h
      rw [← this]; exact ih
    · have h1 : ¬ (((c % 2 : Nat) : Int) = 1) := by omega
      rw [if_neg h1]
      have : crc1 c = c / 2 := if_neg h
      rw [← this]; exact ih
theorem rstep_f (k c b : Nat) (hc : c < 4294967296) (hb : b < 256) : cachepotref1_CrcStep.f (k + 9) c b = some ((crcB c b : Nat) : Int) := by
  unfold cachepotref1_CrcStep.f crcB
  have e : ((b : Int) % 4294967296) = (b : Int) := by omega
  rw [e, bits_xor32 c b hc (by omega)]
  exact rstep_l0 8 k (c ^^^ b) (Nat.le_refl _) (Nat.xor_lt_two_pow (n := 32) hc (by omega))
theorem crc_l0 (s : List UInt8) (hs : s.length < 4611686018427387904) : ∀ (m i k c : Nat), i + m = s.length → c < 4294967296 →
    cachepotref1_Crc.l0 (k + m + 10) ⟨⟨s⟩⟩ (c : Int) (i : Int) = some ((4294967295 - crcS (s.drop i) c : Nat) : Int)
  | 0, i, k, c, h, hc => by
    have hi : ¬ ((i : Int) < (s.length : Int)) := by omega
    show cachepotref1_Crc.l0 ((k + 9) + 1) _ _ _ = _
    rw [cachepotref1_Crc.l0.eq_2]
    rw [bsize, if_neg hi, List.drop_of_length_le (by omega)]
    simp only [crcS]
    congr 1; omega
  | m + 1, i, k, c, h, hc => by
    have hlt : i < s.length := by omega
    have ih := crc_l0 s hs m (i + 1) k (crcB c s[i].toNat) (by omega) (crcB_lt hc s[i].toNat_lt)
    have hi : ((i : Int) < (s.length : Int)) := by omega
    have hb := bt_get s i s[i] (List.getElem?_eq_getElem hlt)
    show cachepotref1_Crc.l0 ((k + m + 10) + 1) _ _ _ = _
    rw [cachepotref1_Crc.l0.eq_2]
    rw [bsize, if_pos hi, if_pos (by omega), hb, wrap64_up i (by omega), List.drop_eq_getElem_cons hlt]
    have e : k + m + 10 = (k + m + 1) + 9 := by omega
    rw [e, rstep_f (k + m + 1) c _ hc s[i].toNat_lt, ← e]
    simp only [Option.bind_some, crcS]
    exact ih
theorem crc_f (s : List UInt8) (hs : s.length < 4611686018427387904) : cachepotref1_Crc.f (s.length + 10) ⟨⟨s⟩⟩ = some ((4294967295 - crcS s 4294967295 : Nat) : Int) := by
  have := crc_l0 s hs s.length 0 0 4294967295 (by omega) (by decide)
  unfold cachepotref1_Crc.f
  simpa using this
end Go.Proofs.YtcooafoheknhhaaGreatDoor.Prm
