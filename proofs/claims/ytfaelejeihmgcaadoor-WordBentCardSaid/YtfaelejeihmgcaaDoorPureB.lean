/-
  Plain law: the reference's quoted and Split compute the same function of the line as the program's.
-/
import Derived.Test.YtfaelejeihmgcaaDoorPureA
namespace Go.Proofs.YtfaelejeihmgcaaDoor.Wd
open Go.RowKit Go.Proofs.YtfaelejeihmgcaaDoorW.PrintWords Go.Proofs.YtfaelejeihmgcaaDoorW.PrintLast

def ints (l : List UInt8) : List Int := l.map fun b => (b.toNat : Int)
theorem ints_append (a b : List UInt8) : ints (a ++ b) = ints a ++ ints b := by simp [ints]
theorem ints_length (a : List UInt8) : (ints a).length = a.length := by simp [ints]
theorem str_ints (l : List UInt8) : strOfNums (ints l) = ⟨l.toArray⟩ := by
  unfold strOfNums ints
  rw [List.map_map, List.map_congr_left (g := id) (fun b _ => by simp), List.map_id]
theorem bytesOf_at (s : ByteArray) (i n : Nat) : bytesOf (s.extract i (i + n)) = ints (bytesAt s i n) := by
  unfold bytesOf ints
  rw [extract_bytes]

def hexI : Option Nat → Int
  | some a => (a : Int)
  | none => -1
theorem hex_f (k : Nat) (c : UInt8) : cachepotref3_hex.f (k + 1) (c.toNat : Int) = some (hexI (hexV c)) := by
  have hc := c.toNat_lt
  unfold cachepotref3_hex.f hexV
  have hj : ∀ h1 : ¬ (48 ≤ c.toNat ∧ c.toNat ≤ 57), cachepotref3_hex.j0 (k + 1) (c.toNat : Int) false = some (hexI (if 97 ≤ c.toNat ∧ c.toNat ≤ 102 then some (c.toNat - 87) else none)) := by
    intro h1
    rw [cachepotref3_hex.j0, if_neg (show ¬ (false = true) by decide)]
    by_cases h2 : 97 ≤ c.toNat ∧ c.toNat ≤ 102
    · rw [if_pos h2, if_pos (by omega), if_pos (by omega)]
      simp only [hexI, Option.some.injEq]
      omega
    · rw [if_neg h2]
      by_cases h3 : (c.toNat : Int) ≥ 97
      · rw [if_pos h3, if_neg (by omega)]; rfl
      · rw [if_neg h3]; rfl
  by_cases h1 : 48 ≤ c.toNat ∧ c.toNat ≤ 57
  · rw [if_pos (by omega), if_pos h1, decide_eq_true (by omega), cachepotref3_hex.j0, if_pos rfl]
    simp only [hexI, Option.some.injEq]
    omega
  · rw [if_neg h1, ← hj h1]
    by_cases h3 : (c.toNat : Int) ≥ 48
    · rw [if_pos h3, decide_eq_false (by omega)]
    · rw [if_neg h3]

theorem decode_lt (s : ByteArray) (i : Nat) (hi : i < s.size) (h : (byteAt s i).toNat < 128) : Utf8.decode s i = ((byteAt s i).toNat, 1) := by
  have e : byteAt s i = s[i] := get_lt s i hi
  rw [e] at h ⊢
  exact decode_ascii s i hi h

/-- an answer of the reference's quoted -/
def ansQ : Option (List UInt8 × Nat) → ByteArray × Int × Bool
  | some (l, n) => (⟨l.toArray⟩, (n : Int), true)
  | none => (⟨#[]⟩, 0, false)

theorem mod256 (a b : Nat) (ha : a < 16) (hb : b < 16) : (wrap64 ((wrap64 (16 * (a : Int))) + (b : Int))) % 256 = (((16 * a + b).toUInt8.toNat : Nat) : Int) := by
  have e1 := w64 (16 * (a : Int)) (by omega) (by omega)
  have e2 := w64 (16 * (a : Int) + (b : Int)) (by omega) (by omega)
  rw [e1, e2]
  have : (16 * a + b).toUInt8.toNat = 16 * a + b := by simp; omega
  rw [this]
  omega

theorem bt_lit (s : ByteArray) (i : Nat) (n : Nat) (hn : n < 256) : (bt s (i : Int) = (n : Int)) ↔ byteAt s i = UInt8.ofNat n := by
  rw [bt_nat, u8_eq_iff _ _ hn]
theorem bt_34 (s : ByteArray) (i : Nat) : (bt s (i : Int) = 34) ↔ byteAt s i = 34 := bt_lit s i 34 (by decide)
theorem bt_32 (s : ByteArray) (i : Nat) : (bt s (i : Int) = 32) ↔ byteAt s i = 32 := bt_lit s i 32 (by decide)
theorem bt_92 (s : ByteArray) (i : Nat) : (bt s (i : Int) = 92) ↔ byteAt s i = 92 := bt_lit s i 92 (by decide)

theorem wn (i n : Nat) (h : i + n ≤ 1099511627780) : wrap64 ((i : Int) + (n : Int)) = ((i + n : Nat) : Int) := by
  have := w64 ((i : Int) + (n : Int)) (by omega) (by omega)
  rw [this]; rfl
theorem wn1 (i : Nat) (h : i + 1 ≤ 1099511627780) : wrap64 ((i : Int) + 1) = ((i + 1 : Nat) : Int) := wn i 1 h
theorem wn2 (i : Nat) (h : i + 2 ≤ 1099511627780) : wrap64 ((i : Int) + 2) = ((i + 2 : Nat) : Int) := wn i 2 h
theorem wn3 (i : Nat) (h : i + 3 ≤ 1099511627780) : wrap64 ((i : Int) + 3) = ((i + 3 : Nat) : Int) := wn i 3 h

set_option maxHeartbeats 1000000 in
theorem rquoted_l0 (s : ByteArray) (hs : s.size ≤ 1099511627776) : ∀ (f pos k : Nat) (acc : List UInt8), s.size ≤ pos + f → 5 * f + 10 < k → acc.length ≤ pos →
    cachepotref3_quoted.l0 k s (ints acc) (pos : Int) = some (ansQ (quotedFrom s f pos acc)) := by
  intro f
  induction f with
  | zero =>
    intro pos k acc hf hk hl
    obtain ⟨k, rfl⟩ : ∃ m, k = m + 1 := ⟨k - 1, by omega⟩
    rw [cachepotref3_quoted.l0, if_neg (by omega)]
    rfl
  | succ f ih =>
    intro pos k acc hf hk hl
    obtain ⟨k, rfl⟩ : ∃ m, k = m + 8 := ⟨k - 8, by omega⟩
    by_cases hp : pos < s.size
    · have hw := width_pos s pos
      have hwl := width_le s pos hp
      rw [cachepotref3_quoted.l0, if_pos (by omega), plain_f (k + 4) s pos hp hs]
      simp only [Option.bind_some]
      rw [if_pos (by omega), quotedFrom, if_pos hp]
      -- a run of bytes goes in, and the loop goes on
      have put : ∀ n m, 1 ≤ n → pos + n ≤ s.size → 5 * f + 10 < m → cachepotref3_quoted.l0 m s (ints acc ++ bytesOf (s.extract pos (pos + n))) ((pos + n : Nat) : Int) = some (ansQ (quotedFrom s f (pos + n) (acc ++ bytesAt s pos n))) := by
        intro n m h1 h2 h3
        rw [bytesOf_at, ← ints_append]
        refine ih (pos + n) m _ (by omega) h3 ?_
        have : (bytesAt s pos n).length ≤ n := List.length_take_le _ _
        rw [List.length_append]; omega
      have put1 : ∀ c n m, 1 ≤ n → 5 * f + 10 < m → cachepotref3_quoted.l0 m s (ints acc ++ [((c : UInt8).toNat : Int)]) ((pos + 1 + n : Nat) : Int) = some (ansQ (quotedFrom s f (pos + 1 + n) (acc ++ [c]))) := by
        intro c n m h1 h3
        have e : ints acc ++ [(c.toNat : Int)] = ints (acc ++ [c]) := by rw [ints_append]; rfl
        rw [e]
        exact ih (pos + 1 + n) m _ (by omega) h3 (by simp; omega)
      have hx : ∀ n, pos + n ≤ s.size → (s.extract pos (pos + n)).size = n := fun n h => by simp; omega
      by_cases h34 : byteAt s pos = 34
      · have hd := decode_lt s pos hp (by rw [h34]; decide)
        have hm : mayB s pos = false := by unfold mayB; rw [hd, h34]; decide
        rw [if_pos ((bt_34 s pos).2 h34), hm, if_neg (show ¬ ((false || byteAt s pos == 32) = true) by rw [h34]; decide), if_pos h34, str_ints, wn1 pos (by omega)]
        rfl
      · rw [if_neg (fun h => h34 ((bt_34 s pos).1 h))]
        by_cases h32 : byteAt s pos = 32
        · have hd := decode_lt s pos hp (by rw [h32]; decide)
          have hw1 : width s pos = 1 := by unfold width; rw [hd]
          rw [if_pos ((bt_32 s pos).2 h32), wn1 pos (by omega), if_pos (by omega), if_pos (by omega)]
          have e1 : ((pos : Nat) : Int).toNat = pos := by omega
          have e2 : ((pos + 1 : Nat) : Int).toNat = pos + 1 := by omega
          rw [e1, e2, if_pos (by rw [hx 1 (by omega), ints_length]; omega), put 1 (k + 7) (by omega) (by omega) (by omega), if_pos (by rw [h32]; simp), hw1]
        · rw [if_neg (fun h => h32 ((bt_32 s pos).1 h))]
          by_cases h92 : byteAt s pos = 92
          · have hd := decode_lt s pos hp (by rw [h92]; decide)
            have hm : mayB s pos = false := by unfold mayB; rw [hd, h92]; decide
            rw [if_pos ((bt_92 s pos).2 h92), hm, if_neg (show ¬ ((false || byteAt s pos == 32) = true) by rw [h92]; decide), if_neg h34, if_pos h92, wn1 pos (by omega)]
            -- one byte behind the stroke
            have one : ∀ m, 5 * f + 10 < m → pos + 1 < s.size → (byteAt s (pos + 1) = 34 ∨ byteAt s (pos + 1) = 92) → ∀ z, cachepotref3_quoted.j1 (m + 1) s (ints acc) (pos : Int) z true = some (ansQ (match escB s (pos + 1) with
                | some (c, n) => quotedFrom s f (pos + 1 + n) (acc ++ [c])
                | none => none)) := by
              intro m hm' h1 h2 z
              have hE : escB s (pos + 1) = some (byteAt s (pos + 1), 1) := by rw [escB, if_pos ⟨h1, h2⟩]
              rw [cachepotref3_quoted.j1, if_pos rfl, wn1 pos (by omega), if_pos (by omega), if_pos (by omega), ints_length, if_pos (by omega), bt_nat, wn2 pos (by omega), hE]
              exact put1 _ 1 m (by omega) hm'
            have two : ∀ m, 5 * f + 10 < m → ¬ (pos + 1 < s.size ∧ (byteAt s (pos + 1) = 34 ∨ byteAt s (pos + 1) = 92)) → cachepotref3_quoted.j1 (m + 4) s (ints acc) (pos : Int) 0 false = some (ansQ (match escB s (pos + 1) with
                | some (c, n) => quotedFrom s f (pos + 1 + n) (acc ++ [c])
                | none => none)) := by
              intro m hm' h1
              have fail : cachepotref3_quoted.j2 (m + 3) s (ints acc) (pos : Int) 0 false = some (⟨#[]⟩, 0, false) := by
                rw [cachepotref3_quoted.j2, if_neg (show ¬ (false = true) by decide), if_pos rfl]
              rw [cachepotref3_quoted.j1, if_neg (show ¬ (false = true) by decide), if_pos (by omega), if_pos (by omega), if_pos ((bt_92 s pos).2 h92), wn1 pos (by omega), wn2 pos (by omega)]
              by_cases h2 : pos + 2 < s.size
              · have hE : escB s (pos + 1) = esc2 (hexV (byteAt s (pos + 1))) (hexV (byteAt s (pos + 2))) := by
                  rw [escB, if_neg h1, if_pos (by omega)]
                rw [if_pos (by omega), if_pos (by omega), if_pos (by omega), bt_nat, hex_f (m + 2), hE]
                simp only [Option.bind_some]
                cases ha : hexV (byteAt s (pos + 1)) with
                | none =>
                  rw [if_neg (by decide), fail]
                  rfl
                | some a =>
                  have ha16 := hexV_lt ha
                  rw [if_pos (show hexI (some a) ≥ 0 by simp only [hexI]; omega), if_pos (by omega), bt_nat, hex_f (m + 2)]
                  simp only [Option.bind_some]
                  cases hb : hexV (byteAt s (pos + 2)) with
                  | none =>
                    rw [decide_eq_false (show ¬ (hexI none ≥ 0) by decide), fail]
                    rfl
                  | some b =>
                    have hb16 := hexV_lt hb
                    rw [decide_eq_true (show hexI (some b) ≥ 0 by simp only [hexI]; omega), cachepotref3_quoted.j2, if_pos rfl, wn1 pos (by omega), wn2 pos (by omega), wn3 pos (by omega), if_pos (by omega), if_pos (by omega), bt_nat, hex_f (m + 1), ha]
                    simp only [Option.bind_some]
                    rw [if_pos (by omega), if_pos (by omega), bt_nat, hex_f (m + 1), hb]
                    simp only [Option.bind_some, hexI]
                    rw [ints_length, if_pos (by omega), mod256 a b ha16 hb16]
                    exact put1 _ 2 (m + 2) (by omega) (by omega)
              · have hE : escB s (pos + 1) = none := by
                  rw [escB, if_neg h1, if_neg (by omega)]
                rw [if_neg (by omega), fail, hE]
                rfl
            have hz : (if (false = true) then ((width s pos : Nat) : Int) else 0) = 0 := if_neg (by decide)
            rw [hz]
            by_cases h1 : pos + 1 < s.size
            · rw [if_pos (by omega), if_pos (by omega)]
              by_cases h2 : byteAt s (pos + 1) = 34
              · rw [if_pos ((bt_34 s (pos + 1)).2 h2)]
                exact one (k + 6) (by omega) h1 (.inl h2) 0
              · rw [if_neg (fun h => h2 ((bt_34 s (pos + 1)).1 h))]
                by_cases h3 : byteAt s (pos + 1) = 92
                · have : (bt s ((pos + 1 : Nat) : Int) == 92) = true := by rw [beq_iff_eq]; exact (bt_92 s (pos + 1)).2 h3
                  rw [this]
                  exact one (k + 6) (by omega) h1 (.inr h3) 0
                · have : (bt s ((pos + 1 : Nat) : Int) == 92) = false := by rw [beq_eq_false_iff_ne]; exact fun h => h3 ((bt_92 s (pos + 1)).1 h)
                  rw [this]
                  exact two (k + 3) (by omega) (fun h => h.2.elim h2 h3)
            · rw [if_neg (by omega)]
              exact two (k + 3) (by omega) (fun h => h1 h.1)
          · rw [if_neg (fun h => h92 ((bt_92 s pos).1 h))]
            have hbe : (byteAt s pos == 32) = false := by rw [beq_eq_false_iff_ne]; exact h32
            rw [cachepotref3_quoted.j1, if_neg (show ¬ (false = true) by decide), if_pos (by omega), if_pos (by omega), if_neg (fun h => h92 ((bt_92 s pos).1 h)), cachepotref3_quoted.j2, if_neg (show ¬ (false = true) by decide)]
            cases hm : mayB s pos with
            | false =>
              have z : (if (false = true) then ((width s pos : Nat) : Int) else 0) = 0 := if_neg (by decide)
              rw [z, if_pos rfl, hbe, if_neg (show ¬ ((false || false) = true) by decide), if_neg h34, if_neg h92]
              rfl
            | true =>
              have z : (if (true = true) then ((width s pos : Nat) : Int) else 0) = ((width s pos : Nat) : Int) := if_pos rfl
              rw [z, if_neg (show ¬ (((width s pos : Nat) : Int) = 0) by omega), if_pos (show 0 ≤ ((pos : Nat) : Int) by omega), wn pos (width s pos) (by omega), if_pos (by omega), if_pos (by omega)]
              have e1 : ((pos : Nat) : Int).toNat = pos := by omega
              have e2 : ((pos + width s pos : Nat) : Int).toNat = pos + width s pos := by omega
              rw [e1, e2, if_pos (by rw [hx _ hwl, ints_length]; omega), put (width s pos) (k + 5) (by omega) (by omega) (by omega), Bool.true_or, if_pos rfl]
    · rw [cachepotref3_quoted.l0, if_neg (by omega), quotedFrom_end s _ pos acc hp]
      rfl

/-- what the reference's quoted computes -/
theorem rquoted_f (s : ByteArray) (hs : s.size ≤ 1099511627776) (p : Nat) (hp : p < s.size) (k : Nat) (hk : 5 * s.size + 10 < k) : cachepotref3_quoted.f k s (p : Int) = some (ansQ (quotedFrom s s.size (p + 1) [])) := by
  unfold cachepotref3_quoted.f
  rw [wn1 p (by omega)]
  exact rquoted_l0 s hs s.size (p + 1) k [] (by omega) hk (by simp)

end Go.Proofs.YtfaelejeihmgcaaDoor.Wd
