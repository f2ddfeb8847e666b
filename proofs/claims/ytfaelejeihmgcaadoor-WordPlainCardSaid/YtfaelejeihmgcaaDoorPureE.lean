/-
  Plain law: no quote and no word that splits holds a line's end; the law WordLines answers true.
-/
import Derived.Test.YtfaelejeihmgcaaDoorPureD
namespace Go.Proofs.YtfaelejeihmgcaaDoor.Wd
open Go.RowKit Go.Proofs.YtfaelejeihmgcaaDoorW.PrintWords Go.Proofs.YtfaelejeihmgcaaDoorW.PrintLast Go.Proofs.YtfaelejeihmgcaaDoorW.PrintMore

/-- the bytes of a rune of two bytes or more are no letters of ASCII -/
theorem rune_hi (s : ByteArray) (i : Nat) (h : 2 ≤ width s i) (j : Nat) (hj : j < width s i) : 128 ≤ (byteAt s (i + j)).toNat := by
  unfold width at h hj
  rw [Lib.decode_at] at h hj
  have e0 : byteAt s (i + 0) = s.get! i := rfl
  have e1 : byteAt s (i + 1) = s.get! (i + 1) := rfl
  have e2 : byteAt s (i + 2) = s.get! (i + 2) := rfl
  have e3 : byteAt s (i + 3) = s.get! (i + 3) := rfl
  rw [← e1, ← e2, ← e3, ← show byteAt s (i + 0) = s.get! i from rfl] at h hj
  have hj4 : j = 0 ∨ j = 1 ∨ j = 2 ∨ j = 3 := by
    unfold Lib.decodeN at hj
    repeat' split at hj
    all_goals (simp only at hj; omega)
  clear e0 e1 e2 e3
  unfold Lib.decodeN at h hj
  repeat' split at h
  all_goals try (simp only at h; omega)
  all_goals (
    repeat rw [if_neg (by omega)] at hj
    try rw [if_pos (by omega)] at hj
    try rw [if_pos (by omega)] at hj
    simp only at hj
    rcases hj4 with rfl | rfl | rfl | rfl <;> omega)

theorem mayB_not (s : ByteArray) (i : Nat) (hi : i < s.size) (h : mayB s i = true) (c : UInt8) (h1 : c.toNat < 128) (h2 : mayR c.toNat 1 = false) : ¬ byteAt s i = c := by
  intro h3
  have e : byteAt s i = s[i] := get_lt s i hi
  rw [h3] at e
  have hd := decode_ascii s i hi (by rw [← e]; exact h1)
  unfold mayB at h
  rw [hd, ← e] at h
  rw [h] at h2
  cases h2
theorem rune_no10 (s : ByteArray) (i : Nat) (hi : i < s.size) (h : mayB s i = true ∨ byteAt s i = 32) (j : Nat) (h1 : i ≤ j) (h2 : j < i + width s i) : ¬ byteAt s j = 10 := by
  have hw := width_pos s i
  by_cases hw1 : width s i = 1
  · obtain rfl : j = i := by omega
    rcases h with h | h
    · exact mayB_not s j hi h 10 (by decide) (by decide)
    · rw [h]; decide
  · have := rune_hi s i (by omega) (j - i) (by omega)
    rw [show i + (j - i) = j by omega] at this
    intro e
    rw [e] at this
    exact absurd this (by decide)

theorem quotedFrom_no10 (s : ByteArray) : ∀ f pos acc l n, quotedFrom s f pos acc = some (l, n) → ∀ j, pos ≤ j → j < n → ¬ byteAt s j = 10 := by
  intro f
  induction f with
  | zero => intro pos acc l n h; cases h
  | succ f ih =>
    intro pos acc l n h j h1 h2
    rw [quotedFrom] at h
    split at h
    · rename_i hp
      split at h
      · rename_i hm
        by_cases hj : j < pos + width s pos
        · refine rune_no10 s pos hp ?_ j h1 hj
          rw [Bool.or_eq_true] at hm
          exact hm.imp id (by simp)
        · exact ih _ _ _ _ h j (by omega) h2
      · split at h
        · rename_i h34
          cases h
          obtain rfl : j = pos := by omega
          rw [h34]; decide
        · split at h
          · rename_i h92
            by_cases hj : j = pos
            · rw [hj, h92]; decide
            · cases hE : escB s (pos + 1) with
              | none => rw [hE] at h; cases h
              | some cn =>
                obtain ⟨c, m⟩ := cn
                rw [hE] at h
                have h3 := ih _ _ _ _ (show quotedFrom s f (pos + 1 + m) (acc ++ [c]) = some (l, n) from h)
                by_cases hj2 : j < pos + 1 + m
                · unfold escB at hE
                  split at hE
                  · rename_i hq
                    cases hE
                    obtain rfl : j = pos + 1 := by omega
                    rcases hq.2 with e | e <;> (rw [e]; decide)
                  · split at hE
                    · cases ha : hexV (byteAt s (pos + 1)) with
                      | none => rw [ha] at hE; cases hE
                      | some a =>
                        cases hb : hexV (byteAt s (pos + 1 + 1)) with
                        | none => rw [ha, hb] at hE; cases hE
                        | some b =>
                          rw [ha, hb] at hE
                          cases hE
                          have hn : ∀ x : UInt8, ∀ y, hexV x = some y → ¬ x = 10 := by
                            intro x y hx e
                            rw [e] at hx
                            cases hx
                          have : j = pos + 1 ∨ j = pos + 1 + 1 := by omega
                          rcases this with rfl | rfl
                          · exact hn _ _ ha
                          · exact hn _ _ hb
                    · cases hE
                · exact h3 j (by omega) h2
          · cases h
    · cases h

theorem runPlain_no10 (s : ByteArray) : ∀ f pos j, pos ≤ j → j < runPlain s f pos → ¬ byteAt s j = 10 := by
  intro f
  induction f with
  | zero => intro pos j h1 h2; rw [runPlain] at h2; omega
  | succ f ih =>
    intro pos j h1 h2
    rw [runPlain] at h2
    split at h2
    · rename_i hp
      split at h2
      · rename_i hm
        by_cases hj : j < pos + width s pos
        · exact rune_no10 s pos hp (.inl hm) j h1 hj
        · exact ih _ j (by omega) h2
      · omega
    · omega

theorem firstAt_no10 (s : ByteArray) (p : Nat) (w : ByteArray) (n : Nat) (h : firstAt s p = some (w, n)) (j : Nat) (h1 : p ≤ j) (h2 : j < n) : ¬ byteAt s j = 10 := by
  unfold firstAt at h
  split at h
  · rename_i hq
    cases hQ : quotedFrom s s.size (p + 1) [] with
    | none => rw [hQ] at h; cases h
    | some ln =>
      obtain ⟨l, m⟩ := ln
      rw [hQ] at h
      cases h
      by_cases hj : j = p
      · rw [hj, hq.2]; decide
      · exact quotedFrom_no10 s _ _ _ _ _ hQ j (by omega) h2
  · split at h
    · cases h
    · cases h
      exact runPlain_no10 s _ _ j h1 h2

theorem splitFrom_no10 (s : ByteArray) : ∀ f p acc l, splitFrom s f p acc = some l → ∀ j, p ≤ j → j < s.size → ¬ byteAt s j = 10 := by
  intro f
  induction f with
  | zero => intro p acc l h; cases h
  | succ f ih =>
    intro p acc l h j h1 h2
    rw [splitFrom] at h
    cases hF : firstAt s p with
    | none => rw [hF] at h; cases h
    | some wn =>
      obtain ⟨w, n⟩ := wn
      rw [hF] at h
      simp only at h
      by_cases hj : j < n
      · exact firstAt_no10 s p w n hF j h1 hj
      · split at h
        · omega
        · split at h
          · rename_i h32
            by_cases hjn : j = n
            · rw [hjn, h32]; decide
            · exact ih _ _ _ h j (by omega) h2
          · cases h

/-! quotes hold none -/
theorem hexD_no10 (n : Nat) (h : n < 16) : ¬ hexD n = 10 := by
  have : ∀ k : Fin 16, ¬ hexD k.val = 10 := by decide
  exact this ⟨n, h⟩
theorem bytesAt_no10 (s : ByteArray) (i n : Nat) (hn : i + n ≤ s.size) (h : ∀ j, i ≤ j → j < i + n → ¬ byteAt s j = 10) : (10 : UInt8) ∉ bytesAt s i n := by
  intro hm
  obtain ⟨k, hk, e⟩ := List.getElem_of_mem hm
  have hk2 : k < n := by have := bytesAt_len s i n; omega
  refine h (i + k) (by omega) (by omega) ?_
  have h1 : (bytesAt s i n)[k]? = some (byteAt s (i + k)) := by
    unfold bytesAt byteAt
    rw [List.getElem?_take_of_lt hk2, List.getElem?_drop, get_lt s (i + k) (by omega), List.getElem?_eq_getElem (by rw [← Lib.size_eq]; omega)]
    rfl
  rw [List.getElem?_eq_getElem hk, e] at h1
  exact (Option.some.inj h1).symm
theorem quote1_no10 (s : ByteArray) (i : Nat) (hi : i < s.size) : (10 : UInt8) ∉ quote1 s i := by
  have hwl := width_le s i hi
  unfold quote1
  split
  · rename_i hm
    refine bytesAt_no10 s i _ hwl fun j h1 h2 => rune_no10 s i hi ?_ j h1 h2
    rw [Bool.or_eq_true] at hm
    exact hm.imp id (by simp)
  · split
    · rename_i hq
      intro hm
      have : (10 : UInt8) = byteAt s i := by simpa using hm
      rw [← this] at hq
      exact absurd hq (by decide)
    · intro hm
      obtain ⟨c, _, hc⟩ := List.mem_flatMap.1 hm
      have hc2 := c.toNat_lt
      unfold hexQ at hc
      simp only [List.mem_cons, List.not_mem_nil, or_false] at hc
      rcases hc with h | h | h
      · exact absurd h (by decide)
      · exact hexD_no10 _ (by omega) h.symm
      · exact hexD_no10 _ (by omega) h.symm
theorem quoteFrom_no10 (s : ByteArray) : ∀ f i, (10 : UInt8) ∉ quoteFrom s f i := by
  intro f
  induction f with
  | zero => intro i; simp [quoteFrom]
  | succ f ih =>
    intro i
    rw [quoteFrom]
    split
    · rename_i hi
      rw [List.mem_append]
      exact fun h => h.elim (quote1_no10 s i hi) (ih _)
    · simp
theorem plainFrom_no10 (s : ByteArray) : ∀ f pos, s.size ≤ pos + f → plainFrom s f pos = true → ∀ j, pos ≤ j → j < s.size → ¬ byteAt s j = 10 := by
  intro f
  induction f with
  | zero => intro pos h _ j h1 h2; omega
  | succ f ih =>
    intro pos hf h j h1 h2
    have hw := width_pos s pos
    rw [plainFrom] at h
    by_cases hp : pos < s.size
    · rw [if_pos hp, Bool.and_eq_true] at h
      by_cases hj : j < pos + width s pos
      · exact rune_no10 s pos hp (.inl h.1) j h1 hj
      · exact ih _ (by omega) h.2 j (by omega) h2
    · omega
theorem quoteB_no10 (s : ByteArray) : (10 : UInt8) ∉ quoteB s := by
  unfold quoteB
  split
  · rename_i h
    unfold plainB at h
    rw [Bool.and_eq_true] at h
    have h1 := bytesAt_no10 s 0 s.size (by omega) fun j _ h2 => plainFrom_no10 s s.size 0 (by omega) h.1 j (by omega) (by omega)
    unfold bytesAt at h1
    rw [List.drop_zero, List.take_of_length_le (by rw [← Lib.size_eq]; exact Nat.le_refl _)] at h1
    exact h1
  · intro h
    simp only [List.mem_cons, List.mem_append, List.not_mem_nil, or_false] at h
    rcases h with h | h | h
    · exact absurd h (by decide)
    · exact quoteFrom_no10 s _ _ h
    · exact absurd h (by decide)

theorem lines_l0 (x y q : ByteArray) (hq : q.size ≤ 1099511627776) (h10 : (10 : UInt8) ∉ q.data.toList) (K : Nat) (end_ : ∀ k, K < k → cachepotlaw25_WordLines.l0 k x y q (q.size : Int) = some true) :
    ∀ (d i k : Nat), q.size - i ≤ d → i ≤ q.size → K + d < k → cachepotlaw25_WordLines.l0 k x y q (i : Int) = some true := by
  intro d
  induction d with
  | zero =>
    intro i k hd hi hk
    obtain rfl : i = q.size := by omega
    exact end_ k (by omega)
  | succ d ih =>
    intro i k hd hi hk
    by_cases h : i < q.size
    · obtain ⟨k, rfl⟩ : ∃ m, k = m + 1 := ⟨k - 1, by omega⟩
      have hne : ¬ bt q (i : Int) = 10 := by
        intro e
        have e2 := (bt_lit q i 10 (by decide)).1 e
        apply h10
        have e3 : byteAt q i = q[i] := get_lt q i h
        have e4 : q[i] = q.data.toList[i]'(by rw [← Lib.size_eq]; exact h) := rfl
        rw [show (10 : UInt8) = q.data.toList[i]'(by rw [← Lib.size_eq]; exact h) by rw [← e4, ← e3, e2]; rfl]
        exact List.getElem_mem _
      rw [cachepotlaw25_WordLines.l0, if_pos (by omega), if_pos (by omega), if_neg hne, wn1 i (by omega)]
      exact ih (i + 1) k (by omega) (by omega) (by omega)
    · obtain rfl : i = q.size := by omega
      exact end_ k (by omega)

/-- THE PLAIN LAW of WordLines -/
theorem WordLines_f (s t : ByteArray) (hs : s.size ≤ 1048576) (k : Nat) (hk : 20000000 < k) : cachepotlaw25_WordLines.f k s t = some true := by
  have hz := quoteB_len s
  have hqz := qB_size s
  unfold cachepotlaw25_WordLines.f
  rw [wQuote_f s (by omega), Option.bind_some]
  refine lines_l0 s t (qB s) (by omega) (quoteB_no10 s) 10000 ?_ (qB s).size 0 k (by omega) (by omega) (by omega)
  intro k hk
  obtain ⟨k, rfl⟩ : ∃ m, k = m + 1 := ⟨k - 1, by omega⟩
  have h1 := short_f s 40
  have h2 := short_f t 40
  have z1 := cut_size s 40
  have z2 := cut_size t 40
  rw [show ((40 : Nat) : Int) = 40 from rfl] at h1 h2
  have z3 : (⟨#[10]⟩ : ByteArray).size = 1 := rfl
  have z4 : (cut s 40 ++ (⟨#[10]⟩ : ByteArray)).size = (cut s 40).size + 1 := by rw [app_size, z3]
  have z5 : ((cut s 40 ++ (⟨#[10]⟩ : ByteArray)) ++ cut t 40).size = (cut s 40).size + 1 + (cut t 40).size := by rw [app_size, z4]
  rw [cachepotlaw25_WordLines.l0, if_neg (by omega), h1, Option.bind_some, if_pos (by omega), h2, Option.bind_some, if_pos (by omega)]
  have h10 : byteAt ((cut s 40 ++ (⟨#[10]⟩ : ByteArray)) ++ cut t 40) (cut s 40).size = 10 := by
    have hlt : (cut s 40).size < ((cut s 40 ++ (⟨#[10]⟩ : ByteArray)) ++ cut t 40).size := by omega
    have e3 : byteAt ((cut s 40 ++ (⟨#[10]⟩ : ByteArray)) ++ cut t 40) (cut s 40).size = ((cut s 40 ++ (⟨#[10]⟩ : ByteArray)) ++ cut t 40)[(cut s 40).size] := get_lt _ _ hlt
    have e4 : ((cut s 40 ++ (⟨#[10]⟩ : ByteArray)) ++ cut t 40)[(cut s 40).size] = ((cut s 40 ++ (⟨#[10]⟩ : ByteArray)) ++ cut t 40).data.toList[(cut s 40).size]'(by rw [← Lib.size_eq]; exact hlt) := rfl
    have e5 : ((cut s 40 ++ (⟨#[10]⟩ : ByteArray)) ++ cut t 40).data.toList[(cut s 40).size]? = some 10 := by
      rw [app_data, app_data, List.append_assoc, Lib.size_eq, List.getElem?_append_right (Nat.le_refl _), Nat.sub_self]
      rfl
    rw [e3, e4]
    rw [List.getElem?_eq_getElem (by rw [← Lib.size_eq]; exact hlt)] at e5
    exact Option.some.inj e5
  generalize hx : (cut s 40 ++ (⟨#[10]⟩ : ByteArray)) ++ cut t 40 = x at *
  rw [word_Split_f x (by omega) k (by omega), Option.bind_some, if_neg (by omega), alive_f k (by omega), Option.bind_some, if_pos rfl]
  cases hS : splitFrom x (x.size + 1) 0 [] with
  | none => rfl
  | some l => exact absurd h10 (splitFrom_no10 x _ _ _ _ hS _ (by omega) (by omega))

end Go.Proofs.YtfaelejeihmgcaaDoor.Wd
