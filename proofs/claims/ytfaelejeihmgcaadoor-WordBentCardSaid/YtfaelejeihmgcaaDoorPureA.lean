/-
  Plain law: what the program's Split and the reference's Split compute is one function of the line.
-/
import Derived.Test.YtfaelejeihmgcaaDoorWd6
import Derived.Test.YtfaelejeihmgcaaDoorHandH
namespace Go.Proofs.YtfaelejeihmgcaaDoor.Wd
open Go.RowKit Go.Proofs.YtfaelejeihmgcaaDoorW.PrintWords Go.Proofs.YtfaelejeihmgcaaDoorW.PrintLast

theorem alive_true : cachepotlaw25_alive.f 40 = some true := by decide +kernel

theorem mayB_ex (s : ByteArray) (p i : Nat) : mayB (s.extract p s.size) i = mayB s (p + i) := by unfold mayB; rw [decode_extract]
theorem width_ex (s : ByteArray) (p i : Nat) : width (s.extract p s.size) i = width s (p + i) := by unfold width; rw [decode_extract]
theorem byteAt_ex (s : ByteArray) (p i : Nat) : byteAt (s.extract p s.size) i = byteAt s (p + i) := by unfold byteAt; rw [get_extract]
theorem size_ex (s : ByteArray) (p : Nat) : (s.extract p s.size).size = s.size - p := by simp
theorem bytesAt_ex (s : ByteArray) (p i n : Nat) : bytesAt (s.extract p s.size) i n = bytesAt s (p + i) n := by
  unfold bytesAt
  rw [Lib.extract_data, Lib.size_eq, ← List.length_drop, List.take_length, List.drop_drop]
theorem escB_ex (s : ByteArray) (p i : Nat) : escB (s.extract p s.size) i = escB s (p + i) := by
  unfold escB
  rw [byteAt_ex, byteAt_ex, size_ex]
  simp only [show ∀ c : Nat, (c < s.size - p) = (p + c < s.size) from fun c => propext ⟨fun h => by omega, fun h => by omega⟩, Nat.add_assoc]

/-- a match's result, its place moved back by p -/
def back (p : Nat) : Option (List UInt8 × Nat) → Option (List UInt8 × Nat)
  | some (l, n) => some (l, n - p)
  | none => none

theorem quotedFrom_ex (s : ByteArray) (p : Nat) : ∀ f i acc, quotedFrom (s.extract p s.size) f i acc = back p (quotedFrom s f (p + i) acc) := by
  intro f
  induction f with
  | zero => intro i acc; rfl
  | succ f ih =>
    intro i acc
    rw [quotedFrom, quotedFrom, mayB_ex, byteAt_ex, width_ex, bytesAt_ex, size_ex, escB_ex]
    by_cases h : i < s.size - p
    · have h' : p + i < s.size := by omega
      rw [if_pos h, if_pos h']
      by_cases h1 : (mayB s (p + i) || byteAt s (p + i) == 32) = true
      · rw [if_pos h1, if_pos h1, ih, Nat.add_assoc]
      · rw [if_neg h1, if_neg h1]
        by_cases h2 : byteAt s (p + i) = 34
        · rw [if_pos h2, if_pos h2, back]
          congr 2
          omega
        · rw [if_neg h2, if_neg h2]
          by_cases h3 : byteAt s (p + i) = 92
          · rw [if_pos h3, if_pos h3, Nat.add_assoc]
            cases escB s (p + (i + 1)) with
            | none => rfl
            | some cn => simp only [ih]; congr 2; omega
          · rw [if_neg h3, if_neg h3]; rfl
    · have h' : ¬ p + i < s.size := by omega
      rw [if_neg h, if_neg h']; rfl

theorem quotedFrom_fuel (s : ByteArray) : ∀ f f' pos acc, s.size ≤ pos + f → s.size ≤ pos + f' → quotedFrom s f pos acc = quotedFrom s f' pos acc := by
  intro f
  induction f with
  | zero =>
    intro f' pos acc h h'
    rw [quotedFrom_end s _ pos acc (by omega), quotedFrom_end s _ pos acc (by omega)]
  | succ f ih =>
    intro f' pos acc h h'
    by_cases hp : pos < s.size
    · obtain ⟨g, rfl⟩ : ∃ g, f' = g + 1 := ⟨f' - 1, by omega⟩
      have hw := width_pos s pos
      rw [quotedFrom, quotedFrom, if_pos hp, if_pos hp]
      by_cases h1 : (mayB s pos || byteAt s pos == 32) = true
      · rw [if_pos h1, if_pos h1]
        exact ih _ _ _ (by omega) (by omega)
      · rw [if_neg h1, if_neg h1]
        by_cases h2 : byteAt s pos = 34
        · rw [if_pos h2, if_pos h2]
        · rw [if_neg h2, if_neg h2]
          by_cases h3 : byteAt s pos = 92
          · rw [if_pos h3, if_pos h3]
            cases hE : escB s (pos + 1) with
            | none => rfl
            | some cn =>
              have := escB_le (show escB s (pos + 1) = some (cn.1, cn.2) from hE)
              exact ih _ _ _ (by omega) (by omega)
          · rw [if_neg h3, if_neg h3]
    · rw [quotedFrom_end s _ pos acc hp, quotedFrom_end s _ pos acc hp]

/-- where a run of plain runes ends -/
def runPlain (s : ByteArray) : Nat → Nat → Nat
  | 0, pos => pos
  | f + 1, pos => if pos < s.size then (if mayB s pos = true then runPlain s f (pos + width s pos) else pos) else pos
theorem runPlain_le (s : ByteArray) : ∀ f pos, pos ≤ s.size → pos ≤ runPlain s f pos ∧ runPlain s f pos ≤ s.size := by
  intro f
  induction f with
  | zero => intro pos h; exact ⟨Nat.le_refl _, h⟩
  | succ f ih =>
    intro pos h
    rw [runPlain]
    by_cases hp : pos < s.size
    · rw [if_pos hp]
      have hw := width_le s pos hp
      split
      · have := ih (pos + width s pos) hw
        omega
      · omega
    · rw [if_neg hp]; omega
theorem runPlain_ex (s : ByteArray) (p : Nat) (hp : p ≤ s.size) : ∀ f i, p + runPlain (s.extract p s.size) f i = runPlain s f (p + i) := by
  intro f
  induction f with
  | zero => intro i; rfl
  | succ f ih =>
    intro i
    rw [runPlain, runPlain, size_ex, mayB_ex, width_ex]
    by_cases h : i < s.size - p
    · have h' : p + i < s.size := by omega
      rw [if_pos h, if_pos h']
      split
      · rw [ih, Nat.add_assoc]
      · rfl
    · have h' : ¬ p + i < s.size := by omega
      rw [if_neg h, if_neg h']
theorem runPlain_fuel (s : ByteArray) : ∀ f f' pos, s.size ≤ pos + f → s.size ≤ pos + f' → runPlain s f pos = runPlain s f' pos := by
  intro f
  induction f with
  | zero =>
    intro f' pos h h'
    cases f' with
    | zero => rfl
    | succ g => rw [runPlain, runPlain, if_neg (by omega)]
  | succ f ih =>
    intro f' pos h h'
    by_cases hp : pos < s.size
    · obtain ⟨g, rfl⟩ : ∃ g, f' = g + 1 := ⟨f' - 1, by omega⟩
      have hw := width_pos s pos
      rw [runPlain, runPlain, if_pos hp, if_pos hp]
      split
      · exact ih _ _ (by omega) (by omega)
      · rfl
    · cases f' with
      | zero => rw [runPlain, runPlain, if_neg hp]
      | succ g => rw [runPlain, runPlain, if_neg hp, if_neg hp]

/-- the word that stands at a place, and the place behind it -/
def firstAt (s : ByteArray) (pos : Nat) : Option (ByteArray × Nat) :=
  if pos < s.size ∧ byteAt s pos = 34 then
    match quotedFrom s s.size (pos + 1) [] with
    | some (l, n) => some (⟨l.toArray⟩, n)
    | none => none
  else if runPlain s s.size pos = pos then none else some (s.extract pos (runPlain s s.size pos), runPlain s s.size pos)
def splitFrom (s : ByteArray) : Nat → Nat → List ByteArray → Option (List ByteArray)
  | 0, _, _ => none
  | f + 1, pos, acc =>
    match firstAt s pos with
    | none => none
    | some (w, n) => if n = s.size then some (acc ++ [w]) else if byteAt s n = 32 then splitFrom s f (n + 1) (acc ++ [w]) else none
theorem ba_ext {a b : ByteArray} (h : a.data.toList = b.data.toList) : a = b := by
  cases a with
  | mk da => cases b with
    | mk db =>
      simp at h
      rw [h]
theorem ex_ex (s : ByteArray) (p a : Nat) : (s.extract p s.size).extract a (s.extract p s.size).size = s.extract (p + a) s.size := by
  apply ba_ext
  rw [Lib.extract_data, Lib.extract_data, Lib.extract_data, size_ex]
  rw [Lib.size_eq, ← List.length_drop, List.take_length, List.drop_drop]
  rw [List.take_of_length_le (by simp; omega), List.take_of_length_le (by simp)]
theorem ex_ex0 (s : ByteArray) (p n : Nat) (h : p + n ≤ s.size) : (s.extract p s.size).extract 0 n = s.extract p (p + n) := by
  apply ba_ext
  rw [Lib.extract_data, Lib.extract_data, Lib.extract_data]
  simp only [List.drop_zero, Nat.sub_zero, List.take_take]
  congr 1
  omega
theorem bt_nat (t : ByteArray) (i : Nat) : bt t (i : Int) = ((byteAt t i).toNat : Int) := by rw [bt_get]; rfl
theorem u8_eq_iff (c : UInt8) (n : Nat) (hn : n < 256) : ((c.toNat : Int) = (n : Int)) ↔ c = UInt8.ofNat n := by
  constructor
  · intro h
    apply UInt8.toNat_inj.1
    have : c.toNat = n := by omega
    rw [this]
    simp [Nat.mod_eq_of_lt hn]
  · intro h
    rw [h]
    simp [Nat.mod_eq_of_lt hn]

/-- what word.first answers -/
def firstR (p : Nat) : Option (ByteArray × Nat) → Option (ByteArray × Int × Bool) → Prop
  | some (w, n), r => r = some (w, ((n - p : Nat) : Int), true)
  | none, r => ∃ a b, r = some (a, b, false)

theorem first_l0 (t : ByteArray) (ht : t.size ≤ 1099511627776) : ∀ (d k i : Nat), i ≤ t.size → t.size - i ≤ d → d < k →
    word_first.l0 k t (i : Int) = some (t.extract 0 (runPlain t d i), (runPlain t d i : Int), decide (((runPlain t d i : Nat) : Int) > 0)) := by
  intro d
  induction d with
  | zero =>
    intro k i hi hd hk
    obtain ⟨k, rfl⟩ : ∃ m, k = m + 1 := ⟨k - 1, by omega⟩
    rw [word_first.l0, if_neg (by omega), if_pos (by omega), if_pos (by omega), runPlain]
    rfl
  | succ d ih =>
    intro k i hi hd hk
    obtain ⟨k, rfl⟩ : ∃ m, k = m + 1 := ⟨k - 1, by omega⟩
    rw [word_first.l0]
    by_cases hp : i < t.size
    · rw [if_pos (by omega), if_pos (by omega), if_pos (by omega)]
      have e : ((i : Int)).toNat = i := by omega
      rw [e, may_f t i hp]
      simp only [Option.bind_some]
      rw [runPlain, if_pos hp]
      have hw := width_le t i hp
      have hw1 := width_pos t i
      cases hm : mayB t i with
      | true =>
        rw [if_pos rfl, if_pos rfl]
        have e2 : wrap64 ((i : Int) + ((width t i : Nat) : Int)) = ((i + width t i : Nat) : Int) := by
          have := w64 ((i : Int) + ((width t i : Nat) : Int)) (by omega) (by omega)
          rw [this]; rfl
        rw [e2]
        exact ih k (i + width t i) hw (by omega) (by omega)
      | false =>
        rw [if_neg (by decide), if_neg (by decide)]
    · rw [if_neg (by omega), if_pos (by omega), if_pos (by omega), runPlain, if_neg hp]
      rfl

theorem prefix_f (t : ByteArray) : strings_HasPrefix.f t ⟨#[34]⟩ = some (decide (0 < t.size ∧ byteAt t 0 = 34)) := by
  unfold strings_HasPrefix.f stringslite_HasPrefix.f
  have e1 : ((⟨#[34]⟩ : ByteArray).size : Int) = 1 := rfl
  rw [e1]
  by_cases h : 0 < t.size
  · rw [if_pos (by omega), if_pos (by omega), if_pos (by omega)]
    simp only [Option.bind_some]
    congr 1
    have e2 : (t.extract 0 (1 : Int).toNat).toList = [byteAt t 0] := by
      rw [Lib.toList_data, Lib.extract_data]
      have : t.data.toList.drop 0 = t[0] :: t.data.toList.drop 1 := List.drop_eq_getElem_cons (by rw [← Lib.size_eq]; exact h)
      rw [this]
      have e3 : byteAt t 0 = t[0] := get_lt t 0 h
      rw [e3]
      rfl
    rw [e2, Lib.toList_data, Bool.eq_iff_iff]
    simp [h]
  · rw [if_neg (by omega)]
    simp only [Option.bind_some]
    congr 1
    rw [eq_comm, decide_eq_false_iff_not]
    exact fun hh => h hh.1

theorem first_f (s : ByteArray) (hs : s.size ≤ 1099511627776) (p : Nat) (hp : p ≤ s.size) (k : Nat) (hk : s.size < k) : firstR p (firstAt s p) (word_first.f k (s.extract p s.size)) := by
  have hz := size_ex s p
  unfold word_first.f firstAt
  have hb0 : byteAt (s.extract p s.size) 0 = byteAt s p := byteAt_ex s p 0
  rw [prefix_f, size_ex, hb0]
  simp only [Option.bind_some]
  by_cases h : p < s.size ∧ byteAt s p = 34
  · rw [if_pos h, decide_eq_true (show 0 < s.size - p ∧ byteAt s p = 34 from ⟨by omega, h.2⟩), if_pos rfl]
    unfold word_quoted.f
    rw [if_pos (by rw [hz]; omega), quotedR, quotedFrom_ex, quotedFrom_fuel s (s.extract p s.size).size s.size (p + 1) [] (by rw [hz]; omega) (by omega)]
    cases quotedFrom s s.size (p + 1) [] with
    | none => exact ⟨_, _, rfl⟩
    | some ln => rfl
  · rw [if_neg h, decide_eq_false (show ¬ (0 < s.size - p ∧ byteAt s p = 34) from fun hh => h ⟨by omega, hh.2⟩), if_neg (show ¬ (false = true) by decide)]
    have h1 := first_l0 (s.extract p s.size) (by rw [hz]; omega) s.size k 0 (by omega) (by rw [hz]; omega) hk
    have h2 := runPlain_ex s p hp s.size 0
    rw [Nat.add_zero] at h2
    have h3 := runPlain_le s s.size p hp
    have e0 : ((0 : Nat) : Int) = 0 := rfl
    rw [e0] at h1
    rw [h1]
    by_cases h4 : runPlain s s.size p = p
    · rw [if_pos h4]
      have : runPlain (s.extract p s.size) s.size 0 = 0 := by omega
      rw [this]
      exact ⟨_, _, rfl⟩
    · rw [if_neg h4]
      have h5 : runPlain (s.extract p s.size) s.size 0 = runPlain s s.size p - p := by omega
      rw [h5]
      show _ = _
      have h6 : s.extract p (runPlain s s.size p) = (s.extract p s.size).extract 0 (runPlain s s.size p - p) := by
        rw [ex_ex0 s p _ (by omega)]
        congr 1
        omega
      rw [h6, decide_eq_true (by omega)]

theorem quotedFrom_le (s : ByteArray) : ∀ f pos acc l n, quotedFrom s f pos acc = some (l, n) → pos < n ∧ n ≤ s.size := by
  intro f
  induction f with
  | zero => intro pos acc l n h; cases h
  | succ f ih =>
    intro pos acc l n h
    rw [quotedFrom] at h
    split at h
    · rename_i hp
      have hw := width_pos s pos
      split at h
      · have := ih _ _ _ _ h; omega
      · split at h
        · cases h; omega
        · split at h
          · cases hE : escB s (pos + 1) with
            | none => rw [hE] at h; cases h
            | some cn =>
              rw [hE] at h
              have := ih _ _ _ _ h
              omega
          · cases h
    · cases h

theorem firstAt_le (s : ByteArray) (p : Nat) (hp : p ≤ s.size) (w : ByteArray) (n : Nat) (h : firstAt s p = some (w, n)) : p < n ∧ n ≤ s.size := by
  unfold firstAt at h
  split at h
  · cases hq : quotedFrom s s.size (p + 1) [] with
    | none => rw [hq] at h; cases h
    | some ln =>
      rw [hq] at h
      have := quotedFrom_le s _ _ _ _ _ (show _ = some (ln.1, ln.2) from hq)
      cases h
      omega
  · have h3 := runPlain_le s s.size p hp
    split at h
    · cases h
    · cases h; omega

def splitO : Option (List ByteArray) → List ByteArray × Int
  | some l => (l, 0)
  | none => ([], 2)

theorem split_l0 (s : ByteArray) (hs : s.size ≤ 1099511627776) : ∀ (f p k : Nat) (acc : List ByteArray), p ≤ s.size → s.size - p < f → s.size + f < k → acc.length + f ≤ 2199023255552 →
    word_Split.l0 k (s.extract p s.size) acc = some (splitO (splitFrom s f p acc)) := by
  intro f
  induction f with
  | zero => intro p k acc hp hf; omega
  | succ f ih =>
    intro p k acc hp hf hk hl
    obtain ⟨k, rfl⟩ : ∃ m, k = m + 1 := ⟨k - 1, by omega⟩
    have hz := size_ex s p
    have h1 := first_f s hs p hp k (by omega)
    rw [word_Split.l0, splitFrom]
    cases hF : firstAt s p with
    | none =>
      rw [hF] at h1
      obtain ⟨a, b, h1⟩ := h1
      rw [h1]
      simp only [Option.bind_some]
      rw [if_neg (by decide)]
      rfl
    | some wn =>
      obtain ⟨w, n⟩ := wn
      have hn := firstAt_le s p hp w n hF
      rw [hF] at h1
      have h1' : word_first.f k (s.extract p s.size) = some (w, ((n - p : Nat) : Int), true) := h1
      rw [h1']
      simp only [Option.bind_some]
      rw [if_pos trivial, if_pos (by omega), hz]
      by_cases hE : n = s.size
      · rw [if_pos hE, if_pos (by omega)]
        rfl
      · rw [if_neg hE, if_neg (by omega), if_pos (by omega), if_pos (by omega), bt_nat, byteAt_ex, show p + (n - p) = n by omega]
        by_cases h32 : byteAt s n = 32
        · rw [if_pos h32, if_pos (by rw [h32]; rfl)]
          have e2 : wrap64 (((n - p : Nat) : Int) + 1) = ((n - p + 1 : Nat) : Int) := by
            have := w64 (((n - p : Nat) : Int) + 1) (by omega) (by omega)
            rw [this]; rfl
          rw [e2]
          have e3 : ((n - p + 1 : Nat) : Int).toNat = n - p + 1 := by omega
          have h7 := ex_ex s p (n - p + 1)
          rw [hz] at h7
          rw [if_pos (by omega), if_pos (by omega), e3, h7, show p + (n - p + 1) = n + 1 by omega]
          exact ih (n + 1) k (acc ++ [w]) (by omega) (by omega) (by omega) (by simp; omega)
        · rw [if_neg h32, if_neg (show ¬ (((byteAt s n).toNat : Int) = 32) from fun h => h32 ((u8_eq_iff _ 32 (by decide)).1 h))]
          rfl

theorem ex_all (s : ByteArray) : s.extract 0 s.size = s := by
  apply ba_ext
  rw [Lib.extract_data]
  simp only [List.drop_zero, Nat.sub_zero]
  exact List.take_of_length_le (by rw [← Lib.size_eq]; exact Nat.le_refl _)

theorem empty_iff (s : ByteArray) : s.toList = ([] : List UInt8) ↔ s.size = 0 := by
  rw [Lib.toList_data, ← List.length_eq_zero_iff, ← Lib.size_eq]

/-- what the program's Split computes -/
theorem word_Split_f (s : ByteArray) (hs : s.size ≤ 1099511627776) (k : Nat) (hk : 2 * s.size + 1 < k) : word_Split.f k s = some (if s.size = 0 then ([], 0) else splitO (splitFrom s (s.size + 1) 0 [])) := by
  unfold word_Split.f
  by_cases h : s.size = 0
  · rw [if_pos ((empty_iff s).2 h), if_pos h]
  · rw [if_neg (fun hh => h ((empty_iff s).1 hh)), if_neg h]
    have := split_l0 s hs (s.size + 1) 0 k [] (by omega) (by omega) (by omega) (by simp; omega)
    rw [ex_all] at this
    exact this

end Go.Proofs.YtfaelejeihmgcaaDoor.Wd
