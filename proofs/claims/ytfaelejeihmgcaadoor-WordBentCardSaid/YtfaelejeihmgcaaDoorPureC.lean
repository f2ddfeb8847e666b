/-
  Plain law: the reference's Split computes the program's function; two equal lists of texts are the same texts; the law WordSplits answers true.
-/
import Derived.Test.YtfaelejeihmgcaaDoorPureB
namespace Go.Proofs.YtfaelejeihmgcaaDoor.Wd
open Go.RowKit Go.Proofs.YtfaelejeihmgcaaDoorW.PrintWords Go.Proofs.YtfaelejeihmgcaaDoorW.PrintLast

theorem rsplit_l1 (s : ByteArray) (hs : s.size ≤ 1099511627776) (acc : List ByteArray) (b : Nat) : ∀ (d pos k : Nat), s.size ≤ pos + d → pos ≤ s.size → b ≤ pos → s.size - pos + 8 < k →
    ∃ k', k ≤ k' + (runPlain s d pos - pos) + 1 ∧ cachepotref3_Split.l1 k s acc (pos : Int) (b : Int) = if runPlain s d pos = b then some ([], 2) else cachepotref3_Split.j3 k' s acc (runPlain s d pos : Int) (s.extract b (runPlain s d pos)) := by
  have stop : ∀ (pos k : Nat), pos ≤ s.size → b ≤ pos → (if (pos : Int) = (b : Int) then (some (([] : List ByteArray), (2 : Int))) else (if 0 ≤ (b : Int) then (if (b : Int) ≤ (pos : Int) then (if (pos : Int) ≤ (s.size : Int) then (cachepotref3_Split.j3 k s acc (pos : Int) (s.extract ((b : Int) : Int).toNat ((pos : Int) : Int).toNat)) else (none)) else (none)) else (none))) = if pos = b then some ([], 2) else cachepotref3_Split.j3 k s acc (pos : Int) (s.extract b pos) := by
    intro pos k h1 h2
    by_cases h : pos = b
    · rw [if_pos h, if_pos (by omega)]
    · have e1 : ((b : Nat) : Int).toNat = b := by omega
      have e2 : ((pos : Nat) : Int).toNat = pos := by omega
      rw [if_neg h, if_neg (by omega), if_pos (by omega), if_pos (by omega), if_pos (by omega), e1, e2]
  intro d
  induction d with
  | zero =>
    intro pos k hd hp hb hk
    obtain ⟨k, rfl⟩ : ∃ m, k = m + 5 := ⟨k - 5, by omega⟩
    refine ⟨k + 4, by omega, ?_⟩
    rw [cachepotref3_Split.l1, if_neg (by omega), stop pos (k + 4) hp hb, runPlain]
  | succ d ih =>
    intro pos k hd hp hb hk
    obtain ⟨k, rfl⟩ : ∃ m, k = m + 5 := ⟨k - 5, by omega⟩
    by_cases hlt : pos < s.size
    · have hw := width_pos s pos
      have hwl := width_le s pos hlt
      cases hm : mayB s pos with
      | false =>
        refine ⟨k + 4, by omega, ?_⟩
        have z : cachepotref3_plain.f (k + 4) s (pos : Int) = some 0 := by
          have z0 := plain_f (k + 1) s pos hlt hs
          rw [hm, if_neg (show ¬ (false = true) by decide)] at z0
          exact z0
        rw [cachepotref3_Split.l1, if_pos (by omega), z, Option.bind_some]
        rw [if_neg (show ¬ ((0 : Int) > 0) by decide), stop pos (k + 4) hp hb, runPlain, if_pos hlt, hm, if_neg (show ¬ (false = true) by decide)]
      | true =>
        obtain ⟨k', hk', e⟩ := ih (pos + width s pos) (k + 4) (by omega) hwl (by omega) (by omega)
        have hle := runPlain_le s d (pos + width s pos) hwl
        have z : cachepotref3_plain.f (k + 4) s (pos : Int) = some ((width s pos : Nat) : Int) := by
          have z0 := plain_f (k + 1) s pos hlt hs
          rw [hm, if_pos rfl] at z0
          exact z0
        rw [cachepotref3_Split.l1, if_pos (by omega), z, Option.bind_some]
        rw [if_pos (show ((width s pos : Nat) : Int) > 0 by omega), Option.bind_some, wn pos (width s pos) (by omega), e, runPlain, if_pos hlt, hm, if_pos rfl]
        exact ⟨k', by omega, rfl⟩
    · refine ⟨k + 4, by omega, ?_⟩
      rw [cachepotref3_Split.l1, if_neg (by omega), stop pos (k + 4) hp hb, runPlain, if_neg hlt]

theorem rsplit_l0 (s : ByteArray) (hs : s.size ≤ 1099511627776) : ∀ (f p k : Nat) (acc : List ByteArray), p ≤ s.size → s.size - p < f → s.size - p + 5 * s.size + 4 * f + 20 < k → acc.length + f ≤ 2199023255552 →
    cachepotref3_Split.l0 k s acc (p : Int) = some (splitO (splitFrom s f p acc)) := by
  intro f
  induction f with
  | zero => intro p k acc hp hf; omega
  | succ f ih =>
    intro p k acc hp hf hk hl
    obtain ⟨k, rfl⟩ : ∃ m, k = m + 4 := ⟨k - 4, by omega⟩
    rw [splitFrom]
    -- a word that has been read
    have word : ∀ (m n : Nat) (w : ByteArray), p < n → n ≤ s.size → s.size - (n + 1) + 5 * s.size + 4 * f + 20 < m → cachepotref3_Split.j3 (m + 1) s acc (n : Int) w = some (splitO (if n = s.size then some (acc ++ [w]) else if byteAt s n = 32 then splitFrom s f (n + 1) (acc ++ [w]) else none)) := by
      intro m n w h1 h2 h3
      rw [cachepotref3_Split.j3, if_pos (by omega)]
      simp only [Option.bind_some]
      by_cases hE : n = s.size
      · rw [if_pos hE, if_pos (by omega)]; rfl
      · rw [if_neg hE, if_neg (by omega), if_pos (by omega), if_pos (by omega)]
        by_cases h32 : byteAt s n = 32
        · rw [if_pos h32, if_pos ((bt_32 s n).2 h32), wn1 n (by omega)]
          exact ih (n + 1) m (acc ++ [w]) (by omega) (by omega) h3 (by simp; omega)
        · rw [if_neg h32, if_neg (fun h => h32 ((bt_32 s n).1 h))]; rfl
    have hj : cachepotref3_Split.l0 (k + 4) s acc (p : Int) = cachepotref3_Split.j1 (k + 3) s acc (p : Int) (decide (p < s.size ∧ byteAt s p = 34)) := by
      rw [cachepotref3_Split.l0]
      by_cases h1 : p < s.size
      · rw [if_pos (by omega), if_pos (by omega)]
        congr 1
        rw [Bool.eq_iff_iff, beq_iff_eq, decide_eq_true_eq, bt_34]
        exact ⟨fun h => ⟨h1, h⟩, fun h => h.2⟩
      · rw [if_neg (by omega), decide_eq_false (fun h => h1 h.1)]
    rw [hj, cachepotref3_Split.j1, firstAt]
    by_cases hq : p < s.size ∧ byteAt s p = 34
    · rw [decide_eq_true hq, if_pos rfl, if_pos hq, rquoted_f s hs p hq.1 (k + 2) (by omega)]
      simp only [Option.bind_some]
      cases hQ : quotedFrom s s.size (p + 1) [] with
      | none =>
        exact (if_neg (show ¬ ((ansQ none).2.2 = true) by decide)).trans rfl
      | some ln =>
        obtain ⟨l, n⟩ := ln
        have hn := quotedFrom_le s _ _ _ _ _ hQ
        rw [if_pos (show (ansQ (some (l, n))).2.2 = true from rfl)]
        exact word (k + 1) n _ (by omega) hn.2 (by omega)
    · rw [decide_eq_false hq, if_neg (show ¬ (false = true) by decide), if_neg hq]
      obtain ⟨k', hk', e⟩ := rsplit_l1 s hs acc p s.size p (k + 2) (by omega) hp (Nat.le_refl p) (by omega)
      have hle := runPlain_le s s.size p hp
      rw [e]
      by_cases hR : runPlain s s.size p = p
      · rw [if_pos hR, if_pos hR]; rfl
      · rw [if_neg hR, if_neg hR]
        obtain ⟨k'', rfl⟩ : ∃ m, k' = m + 1 := ⟨k' - 1, by omega⟩
        exact word k'' _ _ (by omega) hle.2 (by omega)

/-- what the reference's Split computes -/
theorem ref_Split_f (s : ByteArray) (hs : s.size ≤ 1099511627776) (k : Nat) (hk : 10 * s.size + 24 < k) : cachepotref3_Split.f k s = some (if s.size = 0 then ([], 0) else splitO (splitFrom s (s.size + 1) 0 [])) := by
  unfold cachepotref3_Split.f
  by_cases h : s.size = 0
  · rw [if_pos ((empty_iff s).2 h), if_pos h]
  · rw [if_neg (fun hh => h ((empty_iff s).1 hh)), if_neg h]
    exact rsplit_l0 s hs (s.size + 1) 0 k [] (by omega) (by omega) (by omega) (by simp; omega)

theorem same_l0 (l : List ByteArray) (hl : l.length ≤ 1099511627776) : ∀ (d i k : Nat), i ≤ l.length → l.length - i ≤ d → d < k → cachepotbook_SameTexts.l0 k l l (i : Int) = some true := by
  intro d
  induction d with
  | zero =>
    intro i k hi hd hk
    obtain ⟨k, rfl⟩ : ∃ m, k = m + 1 := ⟨k - 1, by omega⟩
    rw [cachepotbook_SameTexts.l0, if_neg (by omega)]
  | succ d ih =>
    intro i k hi hd hk
    obtain ⟨k, rfl⟩ : ∃ m, k = m + 1 := ⟨k - 1, by omega⟩
    rw [cachepotbook_SameTexts.l0]
    by_cases h : i < l.length
    · rw [if_pos (by omega), if_pos (by omega), if_pos (by omega), if_pos rfl, wn1 i (by omega)]
      exact ih (i + 1) k (by omega) (by omega) (by omega)
    · rw [if_neg (by omega)]
theorem same_f (l : List ByteArray) (hl : l.length ≤ 1099511627776) (k : Nat) (hk : l.length < k) : cachepotbook_SameTexts.f k l l = some true := by
  unfold cachepotbook_SameTexts.f
  rw [if_pos rfl]
  exact same_l0 l hl l.length 0 k (by omega) (by omega) hk

theorem splitFrom_len (s : ByteArray) : ∀ (f p : Nat) (acc l : List ByteArray), splitFrom s f p acc = some l → l.length ≤ acc.length + f := by
  intro f
  induction f with
  | zero => intro p acc l h; cases h
  | succ f ih =>
    intro p acc l h
    rw [splitFrom] at h
    cases hF : firstAt s p with
    | none => rw [hF] at h; cases h
    | some wn =>
      obtain ⟨w, n⟩ := wn
      rw [hF] at h
      simp only at h
      split at h
      · cases h; simp
      · split at h
        · have := ih _ _ _ h
          simp at this ⊢
          omega
        · cases h

/-- THE PLAIN LAW of WordSplits -/
theorem WordSplits_f (s : ByteArray) (hs : s.size ≤ 1048576) (k : Nat) (hk : 20000000 < k) : cachepotlaw25_WordSplits.f k s = some true := by
  have ha : cachepotlaw25_alive.f k = some true := by
    obtain ⟨m, rfl⟩ : ∃ m, k = 40 + m := ⟨k - 40, by omega⟩
    clear hk
    induction m with
    | zero => exact alive_true
    | succ m ih => exact cachepotlaw25_alive.mono _ _ ih
  have hX : ∀ X : List ByteArray × Int, X = (if s.size = 0 then ([], 0) else splitO (splitFrom s (s.size + 1) 0 [])) → X.1.length ≤ 1048577 := by
    intro X hX
    rw [hX]
    split
    · simp
    · cases hS : splitFrom s (s.size + 1) 0 [] with
      | none => simp [splitO]
      | some l =>
        have := splitFrom_len s _ _ _ _ hS
        simp only [splitO]
        simp at this
        omega
  unfold cachepotlaw25_WordSplits.f
  rw [word_Split_f s (by omega) k (by omega), ref_Split_f s (by omega) k (by omega), ha]
  generalize hE : (if s.size = 0 then (([] : List ByteArray), (0 : Int)) else splitO (splitFrom s (s.size + 1) 0 [])) = X
  have hl := hX X hE.symm
  simp only [Option.bind_some]
  rw [if_pos trivial, if_pos trivial, same_f X.1 (by omega) k (by omega)]
  rfl

end Go.Proofs.YtfaelejeihmgcaaDoor.Wd
