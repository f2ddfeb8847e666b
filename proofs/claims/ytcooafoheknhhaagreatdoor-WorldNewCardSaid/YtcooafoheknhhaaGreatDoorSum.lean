/- crc.Sum by hand, over the printed crc.Step; what the printed functions on bytes say, in plain words. -/
import Derived.Test.YtcooafoheknhhaaGreatDoorPrm1
import Derived.Test.YtcooafoheknhhaaGreatDoorEvX1
namespace Go.Proofs.YtcooafoheknhhaaGreatDoor.Prm
open Go Go.RowKit Go.Proofs.YtcooafoheknhhaaGreatDoorW.PrintWords Go.Proofs.YtcooafoheknhhaaGreatDoorW.PrintLast Go.Proofs.YtcooafoheknhhaaGreatDoorW.PrintMore

theorem bits_xor32 (a b : Nat) (ha : a < 4294967296) (hb : b < 4294967296) : Go.bits .xor .u32 a b = ((a ^^^ b : Nat) : Int) := by
  have ha' : a % 2 ^ IntKind.u32.bits = a := Nat.mod_eq_of_lt ha
  have hb' : b % 2 ^ IntKind.u32.bits = b := Nat.mod_eq_of_lt hb
  simp only [bits, BitVec.ofInt_natCast, BitVec.toNat_xor, BitVec.toNat_ofNat, ha', hb']
  have : a ^^^ b < 2 ^ 32 := Nat.xor_lt_two_pow ha hb
  rw [IntKind.wrap_u32]; omega
theorem bits_and1 (a : Nat) (ha : a < 4294967296) : Go.bits .and .u32 a 1 = ((a % 2 : Nat) : Int) := by
  have h := bits_mask .u32 32 (by decide) (fun n h0 h1 => by rw [IntKind.wrap_u32]; omega) 1 (by decide) (a : Int) (by omega) (by omega)
  have e : ((2:Int)^1 - 1) = 1 := by decide
  rw [e] at h
  rw [h]; omega
theorem wrap64_up (i : Nat) (h : i < 4611686018427387904) : wrap64 ((i : Int) + 1) = ((i + 1 : Nat) : Int) := by unfold wrap64; omega
theorem bt_get (s : List UInt8) (i : Nat) (x : UInt8) (h : s[i]? = some x) : bt ⟨⟨s⟩⟩ (i : Int) = (x.toNat : Int) := by
  obtain ⟨h1, h2⟩ := List.getElem?_eq_some_iff.1 h
  have hs : ((i : Int)).toNat < (⟨⟨s⟩⟩ : ByteArray).size := by simpa [ByteArray.size] using h1
  unfold bt
  rw [dif_pos hs]
  have : (⟨⟨s⟩⟩ : ByteArray)[((i : Int)).toNat]'hs = x := by
    show (#[].toList ++ s)[i] = x
    simpa using h2
  rw [this]
theorem bsize (s : List UInt8) : (⟨⟨s⟩⟩ : ByteArray).size = s.length := rfl

/-! A byte more. -/
def crc1 (c : Nat) : Nat := if c % 2 = 1 then (c / 2) ^^^ 3988292384 else c / 2
def crcN : Nat → Nat → Nat
  | 0, c => c
  | n + 1, c => crcN n (crc1 c)
theorem crc1_lt {c : Nat} (h : c < 4294967296) : crc1 c < 4294967296 := by
  unfold crc1
  have h2 : c / 2 < 2 ^ 32 := by omega
  split
  · exact Nat.xor_lt_two_pow h2 (by decide)
  · exact h2
theorem crcN_lt : ∀ (n : Nat) {c : Nat}, c < 4294967296 → crcN n c < 4294967296
  | 0, _, h => h
  | n + 1, _, h => crcN_lt n (crc1_lt h)
def crcB (c b : Nat) : Nat := crcN 8 (c ^^^ b)
theorem crcB_lt {c b : Nat} (hc : c < 4294967296) (hb : b < 256) : crcB c b < 4294967296 :=
  crcN_lt 8 (Nat.xor_lt_two_pow (n := 32) hc (by omega))
def crcS : List UInt8 → Nat → Nat
  | [], c => c
  | b :: l, c => crcS l (crcB c b.toNat)
theorem crcS_lt : ∀ (l : List UInt8) {c : Nat}, c < 4294967296 → crcS l c < 4294967296
  | [], _, h => h
  | b :: l, _, h => crcS_lt l (crcB_lt h b.toNat_lt)
theorem crcS_app : ∀ (x y : List UInt8) (c : Nat), crcS (x ++ y) c = crcS y (crcS x c)
  | [], _, _ => rfl
  | a :: x, y, c => crcS_app x y (crcB c a.toNat)

theorem step_l0 : ∀ (m k c : Nat), m ≤ 8 → c < 4294967296 → crc_Step.l0 (k + m + 1) c ((8 - m : Nat) : Int) = some ((crcN m c : Nat) : Int)
  | 0, k, c, _, _ => by simp [crc_Step.l0, crcN]
  | m + 1, k, c, hm, hc => by
    have ih := step_l0 m k (crc1 c) (by omega) (crc1_lt hc)
    have e : wrap64 (((8 - (m + 1) : Nat) : Int) + 1) = ((8 - m : Nat) : Int) := by unfold wrap64; omega
    have hlt : (((8 - (m + 1) : Nat) : Int) < 8) := by omega
    show crc_Step.l0 ((k + m + 1) + 1) c ((8 - (m + 1) : Nat) : Int) = _
    simp only [crc_Step.l0]
    rw [if_pos hlt, e, bits_and1 c hc]
    have hd : ((c : Int) / 2) = ((c / 2 : Nat) : Int) := by omega
    rw [hd]
    by_cases h : c % 2 = 1
    · have h1 : (((c % 2 : Nat) : Int) = 1) := by omega
      have hx := bits_xor32 (c / 2) 3988292384 (by omega) (by decide)
      rw [if_pos h1, show (3988292384 : Int) = ((3988292384 : Nat) : Int) from rfl, hx]
      have : crc1 c = c / 2 ^^^ 3988292384 := if_pos h
      rw [← this]; exact ih
    · have h1 : ¬ (((c % 2 : Nat) : Int) = 1) := by omega
      rw [if_neg h1]
      have : crc1 c = c / 2 := if_neg h
      rw [← this]; exact ih
theorem step_f (c b : Nat) (hc : c < 4294967296) (hb : b < 256) : crc_Step.f 9 c b = some ((crcB c b : Nat) : Int) := by
  unfold crc_Step.f crcB
  have e : ((b : Int) % 4294967296) = (b : Int) := by omega
  rw [e, bits_xor32 c b hc (by omega)]
  exact step_l0 8 0 (c ^^^ b) (Nat.le_refl _) (Nat.xor_lt_two_pow (n := 32) hc (by omega))

theorem step1_calls (c b : Nat) (hc : c < 4294967296) (hb : b < 256) (w : World) : Calls Tryz.prog 237 #[.int .u32 (c : Int), .int .u8 (b : Int)] w fun e w' => e = .returned (.int .u32 ((crcB c b : Nat) : Int)) ∧ Drawn0 w w' :=
  crc_Step.calls 9 c b _ w (step_f c b hc hb)

/-- What all texts come to. -/
def crcL : List (List UInt8) → Nat → Nat
  | [], c => c
  | s :: l, c => crcL l (crcS s c)
theorem crcL_lt : ∀ (l : List (List UInt8)) {c : Nat}, c < 4294967296 → crcL l c < 4294967296
  | [], _, h => h
  | s :: l, _, h => crcL_lt l (crcS_lt s h)
theorem crcL_app1 : ∀ (x : List (List UInt8)) (s : List UInt8) (c : Nat), crcL (x ++ [s]) c = crcS s (crcL x c)
  | [], _, _ => rfl
  | a :: x, s, c => crcL_app1 x s (crcS a c)

theorem xor_ones (C : Nat) (h : C < 4294967296) : 4294967295 ^^^ C = 4294967295 - C := by
  have e : BitVec.allOnes 32 ^^^ BitVec.ofNat 32 C = ~~~ (BitVec.ofNat 32 C) := BitVec.allOnes_xor
  have e2 := congrArg BitVec.toNat e
  rw [BitVec.toNat_xor, BitVec.toNat_not, BitVec.toNat_allOnes, BitVec.toNat_ofNat, Nat.mod_eq_of_lt (by exact h)] at e2
  exact e2
theorem not32 (C : Nat) (h : C < 4294967296) : Go.bits .xor .u32 IntKind.u32.max (C : Int) = ((4294967295 - C : Nat) : Int) := by
  have e : IntKind.u32.max = ((4294967295 : Nat) : Int) := by decide
  rw [e, bits_xor32 _ _ (by decide) h, xor_ones C h]

set_option maxHeartbeats 2000000 in
set_option maxRecDepth 100000 in
theorem Sum_calls (B O n cap : Nat) (ls : List (List UInt8)) (w : World) (hl : ls.length = n) (hn : n ≤ cap) (hmax : n < 4611686018427387904) (hs : ∀ s ∈ ls, s.length < 4611686018427387904)
    (hcell : ∀ (j : Nat) (s : List UInt8), ls[j]? = some s → w.cell? ⟨B, O + j, none⟩ = some (.string ⟨⟨s⟩⟩)) :
    Calls Tryz.prog 179 #[.slice (some ⟨B, O, none⟩) n cap] w fun e w' => e = .returned (.int .u32 ((4294967295 - crcL ls 4294967295 : Nat) : Int)) ∧ Drawn0 w w' := by
  go_enter Tryz.func179, Tryz.ntmps179
  go_wp2
  go_loopw [3, 9] (fun c i wr => ∃ j : Nat, j ≤ n ∧ i = .int .i64 (j : Int) ∧ c = .int .u32 ((crcL (ls.take j) 4294967295 : Nat) : Int) ∧ Drawn0 w wr) (fun _ i _ => n - (intOf i).toNat)
  case atStart => exact ⟨0, Nat.zero_le _, rfl, rfl, Drawn0.refl _⟩
  case round =>
    obtain ⟨j, hj, rfl, rfl, hd⟩ := hrel
    obtain ⟨m0, rfl⟩ := hd.out
    by_cases hlt : j < n
    · obtain ⟨s, hsj⟩ : ∃ s, ls[j]? = some s := ⟨ls[j]'(by omega), List.getElem?_eq_getElem (by omega)⟩
      have hc : (w.drewN m0).cell? ⟨B, O + j, none⟩ = some (.string ⟨⟨s⟩⟩) := hcell j s hsj
      have hsl : s.length < 4611686018427387904 := hs s (List.mem_of_getElem? hsj)
      have hc2 : crcL (ls.take j) 4294967295 < 4294967296 := crcL_lt _ (by decide)
      have htk : ls.take (j + 1) = ls.take j ++ [s] := by
        rw [List.take_add_one, hsj]; rfl
      obtain ⟨C, hC⟩ : ∃ C, crcL (ls.take j) 4294967295 = C := ⟨_, rfl⟩
      have hC1 : crcL (ls.take (j + 1)) 4294967295 = crcS s C := by rw [htk, crcL_app1, hC]
      rw [hC] at hc2 ⊢
      have HC1 := Aside0.mk hC1
      clear hC1 hC htk hsj
      obtain ⟨S, hS⟩ : ∃ S : ByteArray, S = ⟨⟨s⟩⟩ := ⟨_, rfl⟩
      have hSl : S.size = s.length := by rw [hS]; rfl
      rw [← hS] at hc
      have HS := Aside0.mk hS
      clear hS
      go_wp2_with fail
      go_loopw [3, 15] (fun c i wi => ∃ k : Nat, k ≤ s.length ∧ i = .int .i64 (k : Int) ∧ c = .int .u32 ((crcS (s.take k) C : Nat) : Int) ∧ Drawn0 w wi) (fun _ i _ => s.length - (intOf i).toNat)
      case atStart => exact ⟨0, Nat.zero_le _, rfl, rfl, ⟨m0, rfl⟩⟩
      case round =>
        obtain ⟨k, hk, rfl, rfl, hd⟩ := hrel
        obtain ⟨m1, rfl⟩ := hd.out
        by_cases hkt : k < s.length
        · obtain ⟨x, hx⟩ : ∃ x, s[k]? = some x := ⟨s[k]'hkt, List.getElem?_eq_getElem hkt⟩
          have hb := bt_get s k x hx
          have hx255 := x.toNat_lt
          have hcl : crcS (s.take k) C < 4294967296 := crcS_lt _ hc2
          have htk : crcS (s.take (k + 1)) C = crcB (crcS (s.take k) C) x.toNat := by
            rw [List.take_add_one, hx, crcS_app]; rfl
          obtain ⟨D, hD⟩ : ∃ D, crcS (s.take k) C = D := ⟨_, rfl⟩
          rw [hD] at hcl htk ⊢
          have Htk := Aside0.mk htk
          have hix : ∀ (i : Int) (h : i.toNat < S.size), i = (k : Int) → ((S[i.toNat]'h).toNat : Int) = (x.toNat : Int) := by
            intro i h e
            subst e
            rw [bt_at, HS.out, hb]
          have Hix := Aside0.mk hix
          clear htk hD hx hb hix
          have hkt' : k < S.size := by omega
          have hgx : S[k].toNat = x.toNat := by
            have := Hix.out (k : Int) (by simpa using hkt') rfl
            simp only [Int.toNat_natCast] at this
            exact_mod_cast this
          go_wp2_with fail
          refine (step1_calls D x.toNat hcl (by omega) _).mono ?_
          rintro e w' ⟨rfl, ⟨m2, rfl⟩⟩
          go_wp2
          go_roundw
          case rel => exact ⟨k + 1, hkt, by simp, by rw [Htk.out], by repeat (first | exact Drawn0.refl _ | apply Drawn0.step)⟩
          case measure => simp [intOf]; omega
        · have hke : k = s.length := by omega
          subst hke
          go_wp2
          go_roundw
          case rel => exact ⟨j + 1, hlt, by simp, by rw [HC1.out, List.take_length], by repeat (first | exact Drawn0.refl _ | apply Drawn0.step)⟩
          case measure => simp [intOf]; omega
    · have hje : j = n := by omega
      subst hje
      have htl : ls.take j = ls := by rw [← hl]; exact List.take_length
      rw [htl]
      have hc2 : crcL ls 4294967295 < 4294967296 := crcL_lt _ (by decide)
      obtain ⟨C, hC⟩ : ∃ C, crcL ls 4294967295 = C := ⟨_, rfl⟩
      rw [hC] at hc2 ⊢
      have HC := Aside0.mk hC
      clear hC
      go_wp2
      go_ret
      refine ⟨?_, by repeat (first | exact Drawn0.refl _ | apply Drawn0.step)⟩
      rw [not32 C hc2, HC.out]; rfl
end Go.Proofs.YtcooafoheknhhaaGreatDoor.Prm
