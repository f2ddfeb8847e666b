/-
  Plain law: right keys without quotes and strokes are words as they are; the law WordPlain answers true.
-/
import Derived.Test.YtfaelejeihmgcaaDoorPureF
import Derived.Test.YtfaelejeihmgcaaDoorWd10
namespace Go.Proofs.YtfaelejeihmgcaaDoor.Wd
open Go.RowKit Go.Proofs.YtfaelejeihmgcaaDoorW.PrintWords Go.Proofs.YtfaelejeihmgcaaDoorW.PrintLast Go.Proofs.YtfaelejeihmgcaaDoorW.PrintMore

theorem width_le4 (s : ByteArray) (i : Nat) : width s i ≤ 4 := by
  unfold width
  rw [Lib.decode_at]
  unfold Lib.decodeN
  repeat' split
  all_goals simp
theorem right_size (s : ByteArray) : ∀ f pos n, s.size ≤ pos + f → n ≤ 12 → rightFrom s f pos n = true → s.size ≤ pos + 4 * (12 - n) := by
  intro f
  induction f with
  | zero => intro pos n hf _ _; omega
  | succ f ih =>
    intro pos n hf hn h
    rw [rightFrom] at h
    by_cases hp : pos < s.size
    · have hw := width_le4 s pos
      have hw1 := width_pos s pos
      rw [if_pos hp, Bool.and_eq_true, Bool.and_eq_true, decide_eq_true_eq] at h
      have := ih (pos + width s pos) (n + 1) (by omega) h.1 h.2.2
      omega
    · omega
theorem rightB_size (s : ByteArray) (h : rightB s = true) : s.size ≤ 48 := by
  have := right_size s s.size 0 0 (by omega) (by omega) h
  omega
theorem rightB_pos (s : ByteArray) (h : rightB s = true) : s.size ≠ 0 := by
  intro e
  unfold rightB at h
  rw [e] at h
  cases h

theorem decode_low (s : ByteArray) (i : Nat) (h : (Utf8.decode s i).1 < 128) : (byteAt s i).toNat = (Utf8.decode s i).1 := by
  have e : (byteAt s i).toNat = (s.get! i).toNat := rfl
  rw [Lib.decode_at] at h ⊢
  rw [e]
  unfold Lib.decodeN at h ⊢
  repeat' split at h
  all_goals first
    | (rw [if_pos (by assumption)])
    | (simp only at h; omega)

theorem right_plain (s : ByteArray) : ∀ f pos n, s.size ≤ pos + f → rightFrom s f pos n = true → (∀ j, pos ≤ j → j < s.size → ¬ byteAt s j = 34 ∧ ¬ byteAt s j = 92) → plainFrom s f pos = true := by
  intro f
  induction f with
  | zero => intro pos n _ _ _; rfl
  | succ f ih =>
    intro pos n hf h hb
    rw [rightFrom] at h
    rw [plainFrom]
    by_cases hp : pos < s.size
    · have hw1 := width_pos s pos
      rw [if_pos hp, Bool.and_eq_true, Bool.and_eq_true, decide_eq_true_eq] at h
      rw [if_pos hp, Bool.and_eq_true]
      refine ⟨?_, ih (pos + width s pos) (n + 1) (by omega) h.2.2 fun j h1 h2 => hb j (by omega) h2⟩
      have hb0 := hb pos (Nat.le_refl _) hp
      have hlow := decode_low s pos
      have hR := h.2.1
      unfold mayB
      unfold rightR width at hR
      have hwd : 1 ≤ (Utf8.decode s pos).2 := hw1
      generalize (Utf8.decode s pos).1 = r at *
      generalize (Utf8.decode s pos).2 = m at *
      have n34 : ¬ r = 34 := by
        intro e
        have := hlow (by omega)
        exact hb0.1 (UInt8.toNat_inj.1 (by rw [this, e]; rfl))
      have n92 : ¬ r = 92 := by
        intro e
        have := hlow (by omega)
        exact hb0.2 (UInt8.toNat_inj.1 (by rw [this, e]; rfl))
      unfold mayR
      simp at hR ⊢
      omega
    · rw [if_neg hp]

theorem plain_no (s : ByteArray) (c : UInt8) (h1 : c.toNat < 128) (h2 : mayR c.toNat 1 = false) : ∀ f pos, s.size ≤ pos + f → plainFrom s f pos = true → ∀ j, pos ≤ j → j < s.size → ¬ byteAt s j = c := by
  intro f
  induction f with
  | zero => intro pos h _ j h1 h2; omega
  | succ f ih =>
    intro pos hf h j hj1 hj2
    have hw := width_pos s pos
    rw [plainFrom] at h
    by_cases hp : pos < s.size
    · rw [if_pos hp, Bool.and_eq_true] at h
      by_cases hj : j < pos + width s pos
      · by_cases hw1 : width s pos = 1
        · obtain rfl : j = pos := by omega
          exact mayB_not s j hp h.1 c h1 h2
        · have := rune_hi s pos (by omega) (j - pos) (by omega)
          rw [show pos + (j - pos) = j by omega] at this
          intro e
          rw [e] at this
          omega
      · exact ih _ (by omega) h.2 j (by omega) hj2
    · omega

theorem quote1_ge (s : ByteArray) (i : Nat) (hi : i < s.size) : width s i ≤ (quote1 s i).length := by
  have hwl := width_le s i hi
  have hb := bytesAt_length s i (width s i) hwl
  unfold quote1
  split
  · omega
  · split
    · rename_i hq
      have : width s i = 1 := by
        rw [Bool.or_eq_true, beq_iff_eq, beq_iff_eq] at hq
        rcases hq with e | e
        · exact width_ascii s i hi 34 e (by decide)
        · exact width_ascii s i hi 92 e (by decide)
      rw [this]; simp
    · rw [hexQs_len]; omega
theorem quoteFrom_ge (s : ByteArray) : ∀ f i, s.size ≤ i + f → s.size - i ≤ (quoteFrom s f i).length := by
  intro f
  induction f with
  | zero => intro i h; omega
  | succ f ih =>
    intro i h
    rw [quoteFrom]
    by_cases hi : i < s.size
    · have h1 := quote1_ge s i hi
      have hw := width_pos s i
      have h2 := ih (i + width s i) (by omega)
      rw [if_pos hi, List.length_append]
      omega
    · omega
/-- a text with a quote or a stroke is no word as it is -/
theorem quote_ne (s : ByteArray) (i : Nat) (hi : i < s.size) (h : byteAt s i = 34 ∨ byteAt s i = 92) : ((qB s).toList != s.toList) = true := by
  rw [bne_iff_ne, Lib.toList_data, Lib.toList_data, qB_data]
  intro e
  have hpl : plainB s = false := by
    cases hp : plainB s with
    | false => rfl
    | true =>
      unfold plainB at hp
      rw [Bool.and_eq_true] at hp
      rcases h with h | h
      · exact absurd h (plain_no s 34 (by decide) (by decide) s.size 0 (by omega) hp.1 i (by omega) hi)
      · exact absurd h (plain_no s 92 (by decide) (by decide) s.size 0 (by omega) hp.1 i (by omega) hi)
  have hl := congrArg List.length e
  rw [quoteB, hpl, if_neg (by decide), ← Lib.size_eq] at hl
  have := quoteFrom_ge s s.size 0 (by omega)
  simp at hl
  omega
theorem quote_eq (s : ByteArray) (hr : rightB s = true) (h : ∀ j, j < s.size → ¬ byteAt s j = 34 ∧ ¬ byteAt s j = 92) : qB s = s ∧ quoteB s = s.data.toList := by
  have hp : plainB s = true := by
    unfold plainB
    rw [Bool.and_eq_true, decide_eq_true_eq]
    exact ⟨right_plain s s.size 0 0 (by omega) hr fun j _ h2 => h j h2, rightB_pos s hr⟩
  have e : quoteB s = s.data.toList := by rw [quoteB, hp, if_pos rfl]
  exact ⟨ba_ext (by rw [qB_data, e]), e⟩

theorem plain_end (a b : ByteArray) (ha : rightB a = true) (hb : rightB b = true) (ha0 : ∀ j, j < a.size → ¬ byteAt a j = 34 ∧ ¬ byteAt a j = 92) (hb0 : ∀ j, j < b.size → ¬ byteAt b j = 34 ∧ ¬ byteAt b j = 92) (k : Nat) (hk : 4000 < k) :
    cachepotlaw25_WordPlain.l1 k a b (b.size : Int) = some true := by
  obtain ⟨k, rfl⟩ : ∃ m, k = m + 1 := ⟨k - 1, by omega⟩
  have za := rightB_size a ha
  have zb := rightB_size b hb
  obtain ⟨qa, da⟩ := quote_eq a ha ha0
  obtain ⟨_, db⟩ := quote_eq b hb hb0
  have z3 : (⟨#[32]⟩ : ByteArray).size = 1 := rfl
  have z4 : (a ++ (⟨#[32]⟩ : ByteArray)).size = a.size + 1 := by rw [app_size, z3]
  have eJ : (⟨(joinL [a, b]).toArray⟩ : ByteArray) = (a ++ (⟨#[32]⟩ : ByteArray)) ++ b := by
    apply ba_ext
    rw [joinL_cons, tailB_cons, tailB_nil, da, db, app_data, app_data]
    simp
  have hJ : (joinL [a, b]).length ≤ 1000 := by
    have := joinL_len 48 [a, b] (by intro x hx; simp at hx; rcases hx with rfl | rfl <;> omega)
    simp at this
    omega
  have hS := split_join [a, b] (by omega) k (by omega)
  have hW := wJoin_f [a, b] (by simp) (by intro x hx; simp at hx; rcases hx with rfl | rfl <;> omega) (by omega) k (by simp; omega)
  rw [eJ] at hS hW
  have r0 : rdOf ByteArray.empty [a, b] 0 = a := rfl
  have r1 : rdOf ByteArray.empty [a, b] 1 = b := rfl
  rw [cachepotlaw25_WordPlain.l1, if_neg (by omega), if_pos (by omega), if_pos (by omega), hS, Option.bind_some, wQuote_f a (by omega), Option.bind_some, qa, if_pos rfl, if_pos rfl, if_pos (show (([a, b], (0 : Int)).1.length : Int) = 2 from rfl), if_pos (show (0 : Int) < (([a, b], (0 : Int)).1.length : Int) from (by decide : (0 : Int) < ((2 : Nat) : Int))), if_pos (show (rdOf ByteArray.empty ([a, b], (0 : Int)).1 0).toList = a.toList from rfl), if_pos (show (1 : Int) < (([a, b], (0 : Int)).1.length : Int) from (by decide : (1 : Int) < ((2 : Nat) : Int))), if_pos (show (rdOf ByteArray.empty ([a, b], (0 : Int)).1 1).toList = b.toList from rfl), hW, Option.bind_some, beq_self_eq_true]

theorem plain_l1 (a b : ByteArray) (ha : rightB a = true) (hb : rightB b = true) (ha0 : ∀ j, j < a.size → ¬ byteAt a j = 34 ∧ ¬ byteAt a j = 92) : ∀ (d i k : Nat), b.size - i ≤ d → i ≤ b.size → d + 4000 < k → (∀ j, j < i → ¬ byteAt b j = 34 ∧ ¬ byteAt b j = 92) →
    cachepotlaw25_WordPlain.l1 k a b (i : Int) = some true := by
  have zb := rightB_size b hb
  intro d
  induction d with
  | zero =>
    intro i k hd hi hk h
    obtain rfl : i = b.size := by omega
    exact plain_end a b ha hb ha0 h k (by omega)
  | succ d ih =>
    intro i k hd hi hk h
    by_cases hlt : i < b.size
    · obtain ⟨k, rfl⟩ : ∃ m, k = m + 1 := ⟨k - 1, by omega⟩
      rw [cachepotlaw25_WordPlain.l1, if_pos (by omega), if_pos (by omega)]
      by_cases h34 : byteAt b i = 34
      · rw [if_pos ((bt_34 b i).2 h34), wQuote_f b (by omega), Option.bind_some, quote_ne b i hlt (.inl h34)]
      · rw [if_neg (fun e => h34 ((bt_34 b i).1 e))]
        by_cases h92 : byteAt b i = 92
        · rw [if_pos ((bt_92 b i).2 h92), wQuote_f b (by omega), Option.bind_some, quote_ne b i hlt (.inr h92)]
        · rw [if_neg (fun e => h92 ((bt_92 b i).1 e)), wn1 i (by omega)]
          refine ih (i + 1) k (by omega) (by omega) (by omega) fun j hj => ?_
          by_cases e : j = i
          · rw [e]; exact ⟨h34, h92⟩
          · exact h j (by omega)
    · obtain rfl : i = b.size := by omega
      exact plain_end a b ha hb ha0 h k (by omega)

theorem plain_l0 (a b : ByteArray) (ha : rightB a = true) (hb : rightB b = true) : ∀ (d i k : Nat), a.size - i ≤ d → i ≤ a.size → d + 5000 < k → (∀ j, j < i → ¬ byteAt a j = 34 ∧ ¬ byteAt a j = 92) →
    cachepotlaw25_WordPlain.l0 k a b (i : Int) = some true := by
  have za := rightB_size a ha
  have zb := rightB_size b hb
  have fin : ∀ (i k : Nat), ¬ i < a.size → 5000 < k → (∀ j, j < a.size → ¬ byteAt a j = 34 ∧ ¬ byteAt a j = 92) → cachepotlaw25_WordPlain.l0 k a b (i : Int) = some true := by
    intro i k hi hk h
    obtain ⟨k, rfl⟩ : ∃ m, k = m + 1 := ⟨k - 1, by omega⟩
    rw [cachepotlaw25_WordPlain.l0, if_neg (by omega)]
    exact plain_l1 a b ha hb h b.size 0 k (by omega) (by omega) (by omega) (fun j hj => by omega)
  intro d
  induction d with
  | zero =>
    intro i k hd hi hk h
    obtain rfl : i = a.size := by omega
    exact fin a.size k (by omega) (by omega) h
  | succ d ih =>
    intro i k hd hi hk h
    by_cases hlt : i < a.size
    · obtain ⟨k, rfl⟩ : ∃ m, k = m + 1 := ⟨k - 1, by omega⟩
      rw [cachepotlaw25_WordPlain.l0, if_pos (by omega), if_pos (by omega)]
      by_cases h34 : byteAt a i = 34
      · rw [if_pos ((bt_34 a i).2 h34), wQuote_f a (by omega), Option.bind_some, quote_ne a i hlt (.inl h34)]
      · rw [if_neg (fun e => h34 ((bt_34 a i).1 e))]
        by_cases h92 : byteAt a i = 92
        · rw [if_pos ((bt_92 a i).2 h92), wQuote_f a (by omega), Option.bind_some, quote_ne a i hlt (.inr h92)]
        · rw [if_neg (fun e => h92 ((bt_92 a i).1 e)), wn1 i (by omega)]
          refine ih (i + 1) k (by omega) (by omega) (by omega) fun j hj => ?_
          by_cases e : j = i
          · rw [e]; exact ⟨h34, h92⟩
          · exact h j (by omega)
    · obtain rfl : i = a.size := by omega
      exact fin a.size k (by omega) (by omega) h

/-- THE PLAIN LAW of WordPlain -/
theorem WordPlain_f (a b : ByteArray) (k : Nat) (hk : 6000 < k) : cachepotlaw25_WordPlain.f k a b = some true := by
  have hal : ∀ m, 100 < m → cachepotlaw25_WordPlain.j0 m a b true = some true := by
    intro m hm
    obtain ⟨m, rfl⟩ : ∃ j, m = j + 1 := ⟨m - 1, by omega⟩
    rw [cachepotlaw25_WordPlain.j0, if_pos rfl, alive_f m (by omega), Option.bind_some]
  unfold cachepotlaw25_WordPlain.f
  rw [alive_f k (by omega), Option.bind_some, if_pos rfl, keys_Right.f, Option.bind_some]
  cases ha : rightB a with
  | false => rw [if_neg (by decide), hal k (by omega)]
  | true =>
    rw [if_pos rfl, keys_Right.f, Option.bind_some]
    cases hb : rightB b with
    | false =>
      rw [show (!false) = true from rfl, hal k (by omega)]
    | true =>
      have za := rightB_size a ha
      obtain ⟨k, rfl⟩ : ∃ m, k = m + 1 := ⟨k - 1, by omega⟩
      rw [show (!true) = false from rfl, cachepotlaw25_WordPlain.j0, if_neg (by decide)]
      exact plain_l0 a b ha hb a.size 0 k (by omega) (by omega) (by omega) (fun j hj => by omega)

end Go.Proofs.YtfaelejeihmgcaaDoor.Wd
