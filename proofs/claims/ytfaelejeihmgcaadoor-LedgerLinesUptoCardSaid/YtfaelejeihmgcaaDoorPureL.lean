/-
  Plain law of LedgerLines: the line that package ledger makes of an event is the reference's, word by word.
-/
import Derived.Test.YtfaelejeihmgcaaDoorLg13
import Derived.Lib.Join
namespace Go.Proofs.YtfaelejeihmgcaaDoor.Lgx
open Go.RowKit Go.Proofs.YtfaelejeihmgcaaDoorW.PrintWords Go.Proofs.YtfaelejeihmgcaaDoorW.PrintLast
open Wd (hexB)

/-- bytes as a string -/
abbrev B (l : List UInt8) : ByteArray := ⟨l.toArray⟩
theorem B_size (l : List UInt8) : (B l).size = l.length := by simp [ByteArray.size]
theorem B_app (l l' : List UInt8) : B l ++ B l' = B (l ++ l') := by
  apply ByteArray.ext
  rw [ByteArray.data_append]
  simp
theorem B_list (l : List UInt8) : (B l).toList = l := by rw [Lib.toList_data]
theorem B_of (s : ByteArray) : s = B s.data.toList := by
  obtain ⟨⟨l⟩⟩ := s
  rfl

theorem rd101' {l : List S101} {k : Nat} (h : k < l.length) : rd_T101 l (k : Int) = l[k] := by
  unfold rd_T101
  rw [List.getD_eq_getElem?_getD, Int.toNat_natCast, List.getElem?_eq_getElem h]
  rfl
theorem rdstr' {l : List ByteArray} {k : Nat} (h : k < l.length) : rdOf ByteArray.empty l (k : Int) = l[k] := by
  unfold rdOf
  rw [List.getD_eq_getElem?_getD, Int.toNat_natCast, List.getElem?_eq_getElem h]
  rfl

/-! ### a number's digits -/
def decL (v : Int) : List UInt8 := Lib.decDigits v.toNat

theorem dec_step (u : Nat) (h : 10 ≤ u) : Lib.decDigits u = Lib.decDigits (u / 10) ++ Lib.decDigits (u % 10) := by
  conv => lhs; rw [Lib.decDigits, dif_neg (by omega)]
  rw [Lib.decDigits_one (i := u % 10) (by omega)]

theorem str1 (u : Nat) (h : u < 10) : strOfNums [wrap64 (48 + (u : Int)) % 256] = B (Lib.decDigits u) := by
  rw [Lib.decDigits_one h, w64 _ (by omega) (by omega)]
  unfold strOfNums
  have e : ((48 + (u : Int)) % 256).toNat = 48 + u := by omega
  simp only [List.map_cons, List.map_nil, e]

theorem dec_len (u : Nat) : (Lib.decDigits u).length ≤ u + 1 := by
  induction u using Nat.strongRecOn with
  | ind u ih =>
    by_cases h : u < 10
    · rw [Lib.decDigits_one h]; simp
    · have := ih (u / 10) (by omega)
      rw [dec_step u (by omega), List.length_append, Lib.decDigits_one (i := u % 10) (by omega)]
      simp
      omega

theorem digits_f : ∀ (k u : Nat), u < 10 ^ k → u ≤ 9223372036854775807 → cachepotref3_Digits.f (k + 1) (u : Int) = some (B (Lib.decDigits u)) := by
  intro k
  induction k with
  | zero =>
    intro u hu _
    have h0 : u = 0 := by omega
    subst h0
    rw [cachepotref3_Digits.f, if_neg (by omega), if_neg (by omega), if_pos (by omega), str1 0 (by omega)]
  | succ k ih =>
    intro u hu hb
    rw [cachepotref3_Digits.f, if_neg (by omega), if_neg (by omega)]
    by_cases h : u < 10
    · rw [if_pos (by omega), str1 u h]
    · rw [if_neg (by omega)]
      have hq : Int.tdiv (u : Int) 10 = ((u / 10 : Nat) : Int) := by rw [Int.tdiv_eq_ediv_of_nonneg (by omega)]; omega
      have hm : Int.tmod (u : Int) 10 = ((u % 10 : Nat) : Int) := by rw [Int.tmod_eq_emod_of_nonneg (by omega)]; omega
      have hk : 1 ≤ k := by
        rcases Nat.eq_zero_or_pos k with rfl | hk
        · simp at hu; omega
        · exact hk
      have h10 : 10 ^ 1 ≤ 10 ^ k := Nat.pow_le_pow_right (by omega) hk
      have e1 := ih (u / 10) (by rw [Nat.pow_succ] at hu; omega) (by omega)
      have e2 := ih (u % 10) (by omega) (by omega)
      have l3 : (Lib.decDigits (u % 10)).length = 1 := by rw [Lib.decDigits_one (by omega)]; rfl
      have l4 := dec_len (u / 10)
      rw [hq, hm, w64 _ (by omega) (by omega), e1, e2]
      simp only [Option.bind_some]
      rw [if_pos (by rw [B_size, B_size, l3]; omega), B_app, ← dec_step u (by omega)]

/-! ### words and their join -/
def wW (x : S101) : List UInt8 := if x.f1 = true then hexB x.f0 ++ [33] else hexB x.f0 ++ [61] ++ hexB x.f2
def wA (x : S98) : List UInt8 := if x.f1 = true then hexB x.f0 ++ [61] ++ hexB x.f2 ++ [64] ++ decL x.f3 else hexB x.f0 ++ [63]
def sp (l : List (List UInt8)) : List UInt8 := l.flatMap fun w => 32 :: w
def jn (l : List (List UInt8)) : List UInt8 := Lib.join l [32]

theorem jn_sp : ∀ (ws : List (List UInt8)) (w0 : List UInt8), jn (w0 :: ws) = w0 ++ sp ws
  | [], w0 => by simp [jn, Lib.join, sp, List.intercalate]
  | w1 :: ws, w0 => by
    have ih := jn_sp ws w1
    have e : jn (w0 :: w1 :: ws) = w0 ++ ([32] ++ jn (w1 :: ws)) := by simp [jn, Lib.join, List.intercalate, List.intersperse]
    rw [e, ih]
    simp [sp]

theorem join_f (ws : List (List UInt8)) (h1 : ws.length ≤ 1099511627776) (h2 : (jn ws).length ≤ 1099511627776) : strings_Join.f (ws.map B) (⟨#[32]⟩ : ByteArray) = some (B (jn ws)) := by
  have e : Wd.joinB (ws.map B) (⟨#[32]⟩ : ByteArray) = jn ws := by
    unfold Wd.joinB jn
    rw [List.map_map]
    congr 1
    have : ((fun x : ByteArray => x.data.toList) ∘ B) = id := by funext l; rfl
    rw [this, List.map_id]
  show Wd.strings_Join.f _ _ = _
  unfold Wd.strings_Join.f
  rw [e, if_pos ⟨by rw [List.length_map]; exact h1, h2⟩]

theorem hex_len (s : ByteArray) : (hexB s).length ≤ 2 * s.size + 1 := by
  unfold hexB
  split
  · simp
  · rw [Wd.hex1s_length, ← Lib.size_eq]
    omega
theorem lhex_f (s : ByteArray) (h : s.size ≤ 1048576) : ledger_hex.f s = some (B (hexB s)) := by
  unfold ledger_hex.f
  rw [if_pos (by omega)]
theorem rhex_f (s : ByteArray) (h : s.size ≤ 1048576) : cachepotref3_Hex.f s = some (B (hexB s)) := by
  show Wd.cachepotref3_Hex.f s = _
  unfold Wd.cachepotref3_Hex.f
  rw [if_pos (by omega)]
theorem ldec_f (v : Int) (h0 : 0 ≤ v) (h1 : v ≤ 4294967295) : ledger_decimal.f v = some (B (decL v)) := by
  unfold ledger_decimal.f
  rw [if_pos ⟨h0, h1⟩]
  rfl
theorem rdec_f (k : Nat) (v : Int) (h0 : 0 ≤ v) (h1 : v ≤ 4294967295) (hk : 11 ≤ k) : cachepotref3_Digits.f k (wrap64 v) = some (B (decL v)) := by
  obtain ⟨k, rfl⟩ : ∃ m, k = m + 1 := ⟨k - 1, by omega⟩
  obtain ⟨u, rfl⟩ : ∃ u : Nat, v = u := ⟨v.toNat, by omega⟩
  rw [w64 _ (by omega) (by omega)]
  have h10 : 10 ^ 10 ≤ 10 ^ k := Nat.pow_le_pow_right (by omega) (by omega)
  exact digits_f k u (by have : 10 ^ 10 = 10000000000 := by decide
                         omega) (by omega)
theorem decL_len (v : Int) (h1 : v ≤ 4294967295) : (decL v).length ≤ 4294967296 := by
  have := dec_len v.toNat
  unfold decL
  omega

theorem p33 : (⟨#[33]⟩ : ByteArray) = B [33] := rfl
theorem p61 : (⟨#[61]⟩ : ByteArray) = B [61] := rfl
theorem p63 : (⟨#[63]⟩ : ByteArray) = B [63] := rfl
theorem p64 : (⟨#[64]⟩ : ByteArray) = B [64] := rfl
theorem p32 : (⟨#[32]⟩ : ByteArray) = B [32] := rfl

/-! ### the ledger's loops -/
theorem led_l0 (l : List S101) (hs : ∀ x ∈ l, x.f0.size ≤ 1048576 ∧ x.f2.size ≤ 1048576) (hl : l.length ≤ 1000) : ∀ (d k j : Nat) (ws : List (List UInt8)), l.length - j = d → j ≤ l.length → d < k → ws.length + d ≤ 2000 →
    (jn (ws ++ (l.drop j).map wW)).length ≤ 1099511627776 → ledger_Line.l0 k (ws.map B) l (l.length : Int) (j : Int) = some (B (jn (ws ++ (l.drop j).map wW))) := by
  intro d
  induction d with
  | zero =>
    intro k j ws hd hj hk hw hL
    obtain ⟨k, rfl⟩ : ∃ m, k = m + 1 := ⟨k - 1, by omega⟩
    rw [List.drop_eq_nil_of_le (by omega), List.map_nil, List.append_nil] at hL ⊢
    simp only [ledger_Line.l0]
    rw [if_neg (by omega), join_f ws (by omega) hL]
    rfl
  | succ d ih =>
    intro k j ws hd hj hk hw hL
    obtain ⟨k, rfl⟩ : ∃ m, k = m + 1 := ⟨k - 1, by omega⟩
    have h1 : j < l.length := by omega
    obtain ⟨s0, s2⟩ := hs _ (List.getElem_mem h1)
    have n0 := hex_len l[j].f0
    have n2 := hex_len l[j].f2
    rw [List.drop_eq_getElem_cons h1, List.map_cons, List.append_cons] at hL ⊢
    have hi := ih k (j + 1) (ws ++ [wW l[j]]) (by omega) (by omega) (by omega) (by simp; omega) hL
    rw [List.map_append] at hi
    simp only [ledger_Line.l0]
    rw [if_pos (by omega), if_pos (by omega), if_pos (by omega), rd101' h1, w64 _ (by omega) (by omega), lhex_f _ s0]
    by_cases hf : l[j].f1 = true
    · have e : wW l[j] = hexB l[j].f0 ++ [33] := by rw [wW, if_pos hf]
      rw [e] at hi ⊢
      rw [if_pos hf]
      simp only [Option.bind_some]
      rw [if_pos (by rw [B_size]; omega), if_pos (by rw [List.length_map]; omega), p33, B_app]
      exact hi
    · have e : wW l[j] = hexB l[j].f0 ++ [61] ++ hexB l[j].f2 := by rw [wW, if_neg hf]
      rw [e] at hi ⊢
      rw [if_neg hf]
      simp only [Option.bind_some]
      rw [if_pos (by rw [B_size]; omega), lhex_f _ s2]
      simp only [Option.bind_some]
      rw [p61, B_app, B_app, if_pos (by rw [B_size, B_size, List.length_append]; simp only [List.length_singleton]; omega), if_pos (by rw [List.length_map]; omega)]
      exact hi

theorem led_l1 (l : List S98) (hs : ∀ x ∈ l, x.f0.size ≤ 1048576 ∧ x.f2.size ≤ 1048576 ∧ 0 ≤ x.f3 ∧ x.f3 ≤ 4294967295) (hl : l.length ≤ 1000) : ∀ (d k j : Nat) (ws : List (List UInt8)), l.length - j = d → j ≤ l.length → d < k → ws.length + d ≤ 2000 →
    (jn (ws ++ (l.drop j).map wA)).length ≤ 1099511627776 → ledger_Line.l1 k (ws.map B) l (l.length : Int) (j : Int) = some (B (jn (ws ++ (l.drop j).map wA))) := by
  intro d
  induction d with
  | zero =>
    intro k j ws hd hj hk hw hL
    obtain ⟨k, rfl⟩ : ∃ m, k = m + 1 := ⟨k - 1, by omega⟩
    rw [List.drop_eq_nil_of_le (by omega), List.map_nil, List.append_nil] at hL ⊢
    simp only [ledger_Line.l1]
    rw [if_neg (by omega), join_f ws (by omega) hL]
    rfl
  | succ d ih =>
    intro k j ws hd hj hk hw hL
    obtain ⟨k, rfl⟩ : ∃ m, k = m + 1 := ⟨k - 1, by omega⟩
    have h1 : j < l.length := by omega
    obtain ⟨s0, s2, v0, v1⟩ := hs _ (List.getElem_mem h1)
    have n0 := hex_len l[j].f0
    have n2 := hex_len l[j].f2
    have n3 := decL_len l[j].f3 v1
    rw [List.drop_eq_getElem_cons h1, List.map_cons, List.append_cons] at hL ⊢
    have hi := ih k (j + 1) (ws ++ [wA l[j]]) (by omega) (by omega) (by omega) (by simp; omega) hL
    rw [List.map_append] at hi
    simp only [ledger_Line.l1]
    rw [if_pos (by omega), if_pos (by omega), if_pos (by omega), rd98 h1, w64 _ (by omega) (by omega), lhex_f _ s0]
    by_cases hf : l[j].f1 = true
    · have e : wA l[j] = hexB l[j].f0 ++ [61] ++ hexB l[j].f2 ++ [64] ++ decL l[j].f3 := by rw [wA, if_pos hf]
      rw [e] at hi ⊢
      rw [if_pos hf]
      simp only [Option.bind_some]
      rw [if_pos (by rw [B_size]; omega), lhex_f _ s2, ldec_f _ v0 v1]
      simp only [Option.bind_some]
      rw [p61, p64, B_app, B_app, B_app, B_app, if_pos (by rw [B_size, B_size, List.length_append]; simp only [List.length_singleton]; omega), if_pos (by rw [B_size, List.length_append, List.length_append]; simp only [List.length_singleton]; omega),
        if_pos (by rw [B_size, B_size, List.length_append, List.length_append, List.length_append]; simp only [List.length_singleton]; omega), if_pos (by rw [List.length_map]; omega)]
      exact hi
    · have e : wA l[j] = hexB l[j].f0 ++ [63] := by rw [wA, if_neg hf]
      rw [e] at hi ⊢
      rw [if_neg hf]
      simp only [Option.bind_some]
      rw [if_pos (by rw [B_size]; omega), if_pos (by rw [List.length_map]; omega), p63, B_app]
      exact hi

theorem led_l2 (l : List ByteArray) (hs : ∀ x ∈ l, x.size ≤ 1048576) (hl : l.length ≤ 1000) : ∀ (d k j : Nat) (ws : List (List UInt8)), l.length - j = d → j ≤ l.length → d < k → ws.length + d ≤ 2000 →
    (jn (ws ++ (l.drop j).map hexB)).length ≤ 1099511627776 → ledger_Line.l2 k (ws.map B) l (l.length : Int) (j : Int) = some (B (jn (ws ++ (l.drop j).map hexB))) := by
  intro d
  induction d with
  | zero =>
    intro k j ws hd hj hk hw hL
    obtain ⟨k, rfl⟩ : ∃ m, k = m + 1 := ⟨k - 1, by omega⟩
    rw [List.drop_eq_nil_of_le (by omega), List.map_nil, List.append_nil] at hL ⊢
    simp only [ledger_Line.l2]
    rw [if_neg (by omega), join_f ws (by omega) hL]
    rfl
  | succ d ih =>
    intro k j ws hd hj hk hw hL
    obtain ⟨k, rfl⟩ : ∃ m, k = m + 1 := ⟨k - 1, by omega⟩
    have h1 : j < l.length := by omega
    have s0 := hs _ (List.getElem_mem h1)
    rw [List.drop_eq_getElem_cons h1, List.map_cons, List.append_cons] at hL ⊢
    have hi := ih k (j + 1) (ws ++ [hexB l[j]]) (by omega) (by omega) (by omega) (by simp; omega) hL
    rw [List.map_append] at hi
    simp only [ledger_Line.l2]
    rw [if_pos (by omega), if_pos (by omega), if_pos (by omega), rdstr' h1, w64 _ (by omega) (by omega), lhex_f _ s0]
    simp only [Option.bind_some]
    rw [if_pos (by rw [List.length_map]; omega)]
    exact hi

/-! ### the reference's loops -/
theorem sp_cons (w : List UInt8) (ws : List (List UInt8)) : sp (w :: ws) = (32 :: w) ++ sp ws := rfl
theorem p32c (w : List UInt8) : B [32] ++ B w = B (32 :: w) := B_app [32] w

theorem ref_w0 (a b : Int) (l : List S101) (m2 : List S98) (m3 : List ByteArray) (hs : ∀ x ∈ l, x.f0.size ≤ 1048576 ∧ x.f2.size ≤ 1048576) (hl : l.length ≤ 1000) : ∀ (d k j : Nat) (s : List UInt8), l.length - j = d → j ≤ l.length → d < k →
    (s ++ sp ((l.drop j).map wW)).length ≤ 1099511627776 → cachepotref3_Line.l0 k (B s) (j : Int) a b l m2 m3 = some (B (s ++ sp ((l.drop j).map wW))) := by
  intro d
  induction d with
  | zero =>
    intro k j s hd hj hk hL
    obtain ⟨k, rfl⟩ : ∃ m, k = m + 1 := ⟨k - 1, by omega⟩
    rw [List.drop_eq_nil_of_le (by omega)]
    simp only [cachepotref3_Line.l0]
    rw [if_neg (by omega)]
    simp [sp]
  | succ d ih =>
    intro k j s hd hj hk hL
    obtain ⟨k, rfl⟩ : ∃ m, k = m + 1 := ⟨k - 1, by omega⟩
    have h1 : j < l.length := by omega
    obtain ⟨s0, s2⟩ := hs _ (List.getElem_mem h1)
    have n0 := hex_len l[j].f0
    have n2 := hex_len l[j].f2
    rw [List.drop_eq_getElem_cons h1, List.map_cons, sp_cons, ← List.append_assoc] at hL ⊢
    have hi := ih k (j + 1) (s ++ (32 :: wW l[j])) (by omega) (by omega) (by omega) hL
    have hsl : s.length ≤ 1099511627776 := by rw [List.length_append, List.length_append] at hL; omega
    simp only [cachepotref3_Line.l0]
    rw [if_pos (by omega), if_pos (by omega), rd101' h1, w64 _ (by omega) (by omega), rhex_f _ s0]
    by_cases hf : l[j].f1 = true
    · have e : wW l[j] = hexB l[j].f0 ++ [33] := by rw [wW, if_pos hf]
      rw [e] at hi ⊢
      rw [if_pos hf]
      simp only [Option.bind_some]
      rw [p32, p33, p32c, B_app, B_app, if_pos (by rw [B_size]; omega), if_pos (by rw [B_size, List.length_cons]; omega), if_pos (by rw [B_size, B_size, List.length_append, List.length_cons]; simp only [List.length_singleton]; omega)]
      exact hi
    · have e : wW l[j] = hexB l[j].f0 ++ [61] ++ hexB l[j].f2 := by rw [wW, if_neg hf]
      rw [e] at hi ⊢
      rw [if_neg hf]
      simp only [Option.bind_some]
      rw [rhex_f _ s2]
      simp only [Option.bind_some]
      rw [p32, p61, p32c, B_app, B_app, B_app, if_pos (by rw [B_size]; omega), if_pos (by rw [B_size, List.length_cons]; omega), if_pos (by rw [B_size, B_size, List.length_append, List.length_cons]; simp only [List.length_singleton]; omega),
        if_pos (by rw [B_size, B_size, List.length_append, List.length_append, List.length_cons]; simp only [List.length_singleton]; omega)]
      exact hi

theorem ref_w1 (a b : Int) (m1 : List S101) (l : List S98) (m3 : List ByteArray) (hs : ∀ x ∈ l, x.f0.size ≤ 1048576 ∧ x.f2.size ≤ 1048576 ∧ 0 ≤ x.f3 ∧ x.f3 ≤ 4294967295) (hl : l.length ≤ 1000) : ∀ (d k j : Nat) (s : List UInt8), l.length - j = d → j ≤ l.length → d + 11 < k →
    (s ++ sp ((l.drop j).map wA)).length ≤ 1099511627776 → cachepotref3_Line.l1 k (B s) (j : Int) a b m1 l m3 = some (B (s ++ sp ((l.drop j).map wA))) := by
  intro d
  induction d with
  | zero =>
    intro k j s hd hj hk hL
    obtain ⟨k, rfl⟩ : ∃ m, k = m + 1 := ⟨k - 1, by omega⟩
    rw [List.drop_eq_nil_of_le (by omega)]
    simp only [cachepotref3_Line.l1]
    rw [if_neg (by omega)]
    simp [sp]
  | succ d ih =>
    intro k j s hd hj hk hL
    obtain ⟨k, rfl⟩ : ∃ m, k = m + 1 := ⟨k - 1, by omega⟩
    have h1 : j < l.length := by omega
    obtain ⟨s0, s2, v0, v1⟩ := hs _ (List.getElem_mem h1)
    have n0 := hex_len l[j].f0
    have n2 := hex_len l[j].f2
    have n3 := decL_len l[j].f3 v1
    rw [List.drop_eq_getElem_cons h1, List.map_cons, sp_cons, ← List.append_assoc] at hL ⊢
    have hi := ih k (j + 1) (s ++ (32 :: wA l[j])) (by omega) (by omega) (by omega) hL
    have hsl : s.length ≤ 1099511627776 := by rw [List.length_append, List.length_append] at hL; omega
    simp only [cachepotref3_Line.l1]
    rw [if_pos (by omega), if_pos (by omega), rd98 h1, w64 ((j : Int) + 1) (by omega) (by omega), rhex_f _ s0]
    by_cases hf : l[j].f1 = true
    · have e : wA l[j] = hexB l[j].f0 ++ [61] ++ hexB l[j].f2 ++ [64] ++ decL l[j].f3 := by rw [wA, if_pos hf]
      rw [e] at hi ⊢
      rw [if_pos hf]
      simp only [Option.bind_some]
      rw [rhex_f _ s2, rdec_f k _ v0 v1 (by omega)]
      simp only [Option.bind_some]
      rw [p32, p61, p64, p32c, B_app, B_app, B_app, B_app, B_app, if_pos (by rw [B_size]; omega), if_pos (by rw [B_size, List.length_cons]; omega), if_pos (by rw [B_size, B_size, List.length_append, List.length_cons]; simp only [List.length_singleton]; omega),
        if_pos (by rw [B_size, List.length_append, List.length_append, List.length_cons]; simp only [List.length_singleton]; omega),
        if_pos (by rw [B_size, B_size, List.length_append, List.length_append, List.length_append, List.length_cons]; simp only [List.length_singleton]; omega),
        if_pos (by rw [B_size, B_size, List.length_append, List.length_append, List.length_append, List.length_append, List.length_cons]; simp only [List.length_singleton]; omega)]
      exact hi
    · have e : wA l[j] = hexB l[j].f0 ++ [63] := by rw [wA, if_neg hf]
      rw [e] at hi ⊢
      rw [if_neg hf]
      simp only [Option.bind_some]
      rw [p32, p63, p32c, B_app, B_app, if_pos (by rw [B_size]; omega), if_pos (by rw [B_size, List.length_cons]; omega), if_pos (by rw [B_size, B_size, List.length_append, List.length_cons]; simp only [List.length_singleton]; omega)]
      exact hi

theorem ref_w2 (a b : Int) (m1 : List S101) (m2 : List S98) (l : List ByteArray) (hs : ∀ x ∈ l, x.size ≤ 1048576) (hl : l.length ≤ 1000) : ∀ (d k j : Nat) (s : List UInt8), l.length - j = d → j ≤ l.length → d < k →
    (s ++ sp ((l.drop j).map hexB)).length ≤ 1099511627776 → cachepotref3_Line.l2 k (B s) (j : Int) a b m1 m2 l = some (B (s ++ sp ((l.drop j).map hexB))) := by
  intro d
  induction d with
  | zero =>
    intro k j s hd hj hk hL
    obtain ⟨k, rfl⟩ : ∃ m, k = m + 1 := ⟨k - 1, by omega⟩
    rw [List.drop_eq_nil_of_le (by omega)]
    simp only [cachepotref3_Line.l2]
    rw [if_neg (by omega)]
    simp [sp]
  | succ d ih =>
    intro k j s hd hj hk hL
    obtain ⟨k, rfl⟩ : ∃ m, k = m + 1 := ⟨k - 1, by omega⟩
    have h1 : j < l.length := by omega
    have s0 := hs _ (List.getElem_mem h1)
    have n0 := hex_len l[j]
    rw [List.drop_eq_getElem_cons h1, List.map_cons, sp_cons, ← List.append_assoc] at hL ⊢
    have hi := ih k (j + 1) (s ++ (32 :: hexB l[j])) (by omega) (by omega) (by omega) hL
    have hsl : s.length ≤ 1099511627776 := by rw [List.length_append, List.length_append] at hL; omega
    simp only [cachepotref3_Line.l2]
    rw [if_pos (by omega), if_pos (by omega), rdstr' h1, w64 _ (by omega) (by omega), rhex_f _ s0]
    simp only [Option.bind_some]
    rw [p32, p32c, B_app, if_pos (by rw [B_size]; omega), if_pos (by rw [B_size, B_size, List.length_cons]; omega)]
    exact hi

/-! ### the law -/
theorem sp_len (n : Nat) : ∀ (ws : List (List UInt8)), (∀ w ∈ ws, w.length ≤ n) → (sp ws).length ≤ ws.length * (n + 1)
  | [], _ => by simp [sp]
  | w :: ws, h => by
    have h1 := sp_len n ws (fun x hx => h x (by simp [hx]))
    have h2 := h w (by simp)
    rw [sp_cons, List.length_append, List.length_cons, List.length_cons, Nat.add_mul]
    omega

/-- what an event must keep -/
structure Fits (a1 : Int) (l2 : List S101) (l3 : List S98) (l4 : List ByteArray) : Prop where
  n2 : l2.length ≤ 40
  n3 : l3.length ≤ 40
  n4 : l4.length ≤ 40
  s0 : 0 ≤ a1
  s1 : a1 ≤ 4294967295
  w : ∀ x ∈ l2, x.f0.size ≤ 1048576 ∧ x.f2.size ≤ 1048576
  a : ∀ x ∈ l3, x.f0.size ≤ 1048576 ∧ x.f2.size ≤ 1048576 ∧ 0 ≤ x.f3 ∧ x.f3 ≤ 4294967295
  k : ∀ x ∈ l4, x.size ≤ 1048576

theorem wW_len (x : S101) (h : x.f0.size ≤ 1048576 ∧ x.f2.size ≤ 1048576) : (wW x).length ≤ 4194307 := by
  have n0 := hex_len x.f0
  have n2 := hex_len x.f2
  unfold wW
  split <;> simp only [List.length_append, List.length_singleton] <;> omega
theorem wA_len (x : S98) (h : x.f0.size ≤ 1048576 ∧ x.f2.size ≤ 1048576 ∧ 0 ≤ x.f3 ∧ x.f3 ≤ 4294967295) : (wA x).length ≤ 4299161604 := by
  have n0 := hex_len x.f0
  have n2 := hex_len x.f2
  have n3 := decL_len x.f3 h.2.2.2
  unfold wA
  split <;> simp only [List.length_append, List.length_singleton] <;> omega
theorem hexB_len (x : ByteArray) (h : x.size ≤ 1048576) : (hexB x).length ≤ 2097153 := by
  have n0 := hex_len x
  omega

def commitL : List UInt8 := [99, 111, 109, 109, 105, 116]
def gotL : List UInt8 := [103, 111, 116]
def forgotL : List UInt8 := [102, 111, 114, 103, 111, 116]

theorem Line_f (a0 a1 : Int) (l2 : List S101) (l3 : List S98) (l4 : List ByteArray) (hF : Fits a1 l2 l3 l4) (k : Nat) (hk : 100 ≤ k) :
    ∃ r, ledger_Line.f k a0 a1 l2 l3 l4 = some r ∧ cachepotref3_Line.f k a0 a1 l2 l3 l4 = some r := by
  have hd := decL_len a1 hF.s1
  unfold ledger_Line.f cachepotref3_Line.f
  by_cases h1 : a0 = 1
  · rw [if_pos h1, if_pos h1, ldec_f _ hF.s0 hF.s1, rdec_f k _ hF.s0 hF.s1 (by omega)]
    simp only [Option.bind_some]
    have hsl := sp_len 4194307 (l2.map wW) (fun w hw => by obtain ⟨x, hx, rfl⟩ := List.mem_map.1 hw; exact wW_len x (hF.w x hx))
    rw [List.length_map] at hsl
    have hn := hF.n2
    have hm : l2.length * (4194307 + 1) ≤ 40 * (4194307 + 1) := Nat.mul_le_mul_right _ hn
    have e1 := led_l0 l2 hF.w (by omega) l2.length k 0 [commitL, decL a1] (by omega) (by omega) (by omega) (by simp; omega) (by
      rw [List.drop_zero, List.cons_append, List.cons_append, List.nil_append, jn_sp, sp_cons]
      simp only [List.length_append, List.length_cons, commitL, List.length_nil]
      omega)
    rw [List.drop_zero, List.cons_append, List.cons_append, List.nil_append, jn_sp, sp_cons] at e1
    have e2 := ref_w0 a0 a1 l2 l3 l4 hF.w (by omega) l2.length k 0 ([99, 111, 109, 109, 105, 116, 32] ++ decL a1) (by omega) (by omega) (by omega) (by
      rw [List.drop_zero]
      simp only [List.length_append, List.length_cons, List.length_nil]
      omega)
    rw [List.drop_zero] at e2
    refine ⟨_, e1, ?_⟩
    rw [if_pos (by rw [B_size]; omega), show (⟨#[99, 111, 109, 109, 105, 116, 32]⟩ : ByteArray) = B [99, 111, 109, 109, 105, 116, 32] from rfl, B_app]
    refine e2.trans ?_
    simp [commitL]
  · rw [if_neg h1, if_neg h1]
    by_cases h2 : a0 = 2
    · rw [if_pos h2, if_pos h2]
      have hsl := sp_len 4299161604 (l3.map wA) (fun w hw => by obtain ⟨x, hx, rfl⟩ := List.mem_map.1 hw; exact wA_len x (hF.a x hx))
      rw [List.length_map] at hsl
      have hn := hF.n3
      have hm : l3.length * (4299161604 + 1) ≤ 40 * (4299161604 + 1) := Nat.mul_le_mul_right _ hn
      have e1 := led_l1 l3 hF.a (by omega) l3.length k 0 [gotL] (by omega) (by omega) (by omega) (by simp; omega) (by
        rw [List.drop_zero, List.cons_append, List.nil_append, jn_sp]
        simp only [List.length_append, List.length_cons, gotL, List.length_nil]
        omega)
      rw [List.drop_zero, List.cons_append, List.nil_append, jn_sp] at e1
      exact ⟨_, e1, (ref_w1 a0 a1 l2 l3 l4 hF.a (by omega) l3.length k 0 gotL (by omega) (by omega) (by omega) (by
        rw [List.drop_zero]
        simp only [List.length_append, List.length_cons, gotL, List.length_nil]
        omega)).trans (by rw [List.drop_zero])⟩
    · rw [if_neg h2, if_neg h2]
      by_cases h3 : a0 = 3
      · rw [if_pos h3, if_pos h3]
        have hsl := sp_len 2097153 (l4.map hexB) (fun w hw => by obtain ⟨x, hx, rfl⟩ := List.mem_map.1 hw; exact hexB_len x (hF.k x hx))
        rw [List.length_map] at hsl
        have hn := hF.n4
        have hm : l4.length * (2097153 + 1) ≤ 40 * (2097153 + 1) := Nat.mul_le_mul_right _ hn
        have e1 := led_l2 l4 hF.k (by omega) l4.length k 0 [forgotL] (by omega) (by omega) (by omega) (by simp; omega) (by
          rw [List.drop_zero, List.cons_append, List.nil_append, jn_sp]
          simp only [List.length_append, List.length_cons, forgotL, List.length_nil]
          omega)
        rw [List.drop_zero, List.cons_append, List.nil_append, jn_sp] at e1
        exact ⟨_, e1, (ref_w2 a0 a1 l2 l3 l4 hF.k (by omega) l4.length k 0 forgotL (by omega) (by omega) (by omega) (by
          rw [List.drop_zero]
          simp only [List.length_append, List.length_cons, forgotL, List.length_nil]
          omega)).trans (by rw [List.drop_zero])⟩
      · rw [if_neg h3, if_neg h3]
        exact ⟨B [], by rw [show strings_Join.f ([] : List ByteArray) (⟨#[32]⟩ : ByteArray) = some (B []) from join_f [] (by decide) (by decide)]; rfl, rfl⟩

theorem alive_f (k : Nat) (hk : 100 ≤ k) : cachepotlaw21_alive.f k = some true := by
  have h1 : ledger_Replay.f [⟨2, 0, [], [⟨⟨#[97]⟩, true, ⟨#[]⟩, 0⟩], []⟩] = some (0, false) := by
    unfold ledger_Replay.f
    rw [if_pos (by decide)]
    simp [replayM, fails, sameA, neA, getM, asked, Atm.nought]
  have e1 := led_l2 [⟨#[97]⟩] (fun x hx => by simp at hx; subst hx; decide) (by decide) 1 k 0 [forgotL] (by decide) (by decide) (by omega) (by decide) (by decide)
  have h2 : ledger_Line.f k 3 0 [] [] [⟨#[97]⟩] = some (B [102, 111, 114, 103, 111, 116, 32, 54, 49]) := by
    unfold ledger_Line.f
    rw [if_neg (by decide), if_neg (by decide), if_pos rfl]
    refine Eq.trans e1 ?_
    rw [show jn ([forgotL] ++ (List.drop 0 [(⟨#[97]⟩ : ByteArray)]).map hexB) = [102, 111, 114, 103, 111, 116, 32, 54, 49] from by decide]
  unfold cachepotlaw21_alive.f
  rw [h1]
  simp only [Option.bind_some]
  rw [h2]
  simp only [Option.bind_some]
  rw [if_pos (B_list _), if_pos trivial]
  rfl

theorem LedgerLines_f (a0 a1 : Int) (l2 : List S101) (l3 : List S98) (l4 : List ByteArray) (s0 : 0 ≤ a1) (s1 : a1 ≤ 4294967295) (w : ∀ x ∈ l2, x.f0.size ≤ 1048576 ∧ x.f2.size ≤ 1048576)
    (a : ∀ x ∈ l3, x.f0.size ≤ 1048576 ∧ x.f2.size ≤ 1048576 ∧ 0 ≤ x.f3 ∧ x.f3 ≤ 4294967295) (ks : ∀ x ∈ l4, x.size ≤ 1048576) : cachepotlaw21_LedgerLines.f 1001 a0 a1 l2 l3 l4 = some true := by
  have hal : cachepotlaw21_LedgerLines.j0 1001 true a0 a1 l2 l3 l4 = some true := by
    simp only [cachepotlaw21_LedgerLines.j0]
    rw [if_pos trivial, alive_f 1000 (by decide)]
    rfl
  unfold cachepotlaw21_LedgerLines.f
  by_cases h2 : (l2.length : Int) > 40
  · rw [if_pos h2]; exact hal
  · rw [if_neg h2]
    by_cases h3 : (l3.length : Int) > 40
    · rw [if_pos h3]; exact hal
    · rw [if_neg h3]
      by_cases h4 : (l4.length : Int) > 40
      · rw [decide_eq_true h4]; exact hal
      · rw [decide_eq_false h4]
        obtain ⟨r, e1, e2⟩ := Line_f a0 a1 l2 l3 l4 ⟨by omega, by omega, by omega, s0, s1, w, a, ks⟩ 1000 (by decide)
        simp only [cachepotlaw21_LedgerLines.j0]
        rw [if_neg (by decide), alive_f 1000 (by decide)]
        simp only [Option.bind_some]
        rw [if_pos trivial, e1]
        simp only [Option.bind_some]
        rw [e2]
        simp

end Go.Proofs.YtfaelejeihmgcaaDoor.Lgx
