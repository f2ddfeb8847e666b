/-
  Plain law: the words of a joined line come back; the law WordBack answers true.
-/
import Derived.Test.YtfaelejeihmgcaaDoorPureE
namespace Go.Proofs.YtfaelejeihmgcaaDoor.Wd
open Go.RowKit Go.Proofs.YtfaelejeihmgcaaDoorW.PrintWords Go.Proofs.YtfaelejeihmgcaaDoorW.PrintLast Go.Proofs.YtfaelejeihmgcaaDoorW.PrintMore

/-! what stands at a place -/
theorem at_of (s : ByteArray) (i : Nat) (c : UInt8) (h : s.data.toList[i]? = some c) : i < s.size ∧ byteAt s i = c := by
  obtain ⟨hlt, e⟩ := List.getElem?_eq_some_iff.1 h
  have h1 : i < s.size := by rw [Lib.size_eq]; exact hlt
  refine ⟨h1, ?_⟩
  unfold byteAt
  rw [get_lt s i h1]
  exact e
theorem bytesAt_get (x : ByteArray) (i n j : Nat) (hn : i + n ≤ x.size) (hj : j < n) : (bytesAt x i n)[j]? = some (byteAt x (i + j)) := by
  unfold bytesAt byteAt
  rw [List.getElem?_take_of_lt hj, List.getElem?_drop, get_lt x (i + j) (by omega), List.getElem?_eq_getElem (by rw [← Lib.size_eq]; omega)]
  rfl
theorem bytesAt_length (x : ByteArray) (i n : Nat) (hn : i + n ≤ x.size) : (bytesAt x i n).length = n := by
  unfold bytesAt
  rw [List.length_take, List.length_drop, ← Lib.size_eq]
  omega
/-- what stands at place p of s is the list l, and then the list r -/
def Lies (s : ByteArray) (p : Nat) (l r : List UInt8) : Prop := s.data.toList.drop p = l ++ r
theorem Lies.next {s : ByteArray} {p : Nat} {a b r : List UInt8} (h : Lies s p (a ++ b) r) : Lies s (p + a.length) b r := by
  unfold Lies at h ⊢
  rw [← List.drop_drop, h, List.append_assoc, List.drop_left]
theorem Lies.get {s : ByteArray} {p : Nat} {l r : List UInt8} (h : Lies s p l r) (j : Nat) (c : UInt8) (hj : l[j]? = some c) : p + j < s.size ∧ byteAt s (p + j) = c := by
  apply at_of
  unfold Lies at h
  rw [← List.getElem?_drop, h, List.getElem?_append_left (List.getElem?_eq_some_iff.1 hj).1]
  exact hj
theorem Lies.last {s : ByteArray} {p : Nat} {l r : List UInt8} (h : Lies s p l r) (hp : p ≤ s.size) : p + l.length + r.length = s.size := by
  unfold Lies at h
  have := congrArg List.length h
  rw [List.length_drop, List.length_append, ← Lib.size_eq] at this
  omega
theorem Lies.move {s : ByteArray} {p : Nat} {a b r : List UInt8} : Lies s p (a ++ b) r ↔ Lies s p a (b ++ r) := by unfold Lies; rw [List.append_assoc]
theorem Lies.bytes {s : ByteArray} {p : Nat} {l r : List UInt8} (h : Lies s p l r) : bytesAt s p l.length = l := by
  unfold bytesAt
  unfold Lies at h
  rw [h, List.take_left]

/-! a rune that is no error reads alike wherever its bytes stand -/
theorem decodeN_local (n n' b0 b1 b2 b3 c0 c1 c2 c3 : Nat) (hne : ¬ Lib.decodeN n b0 b1 b2 b3 = (65533, 1)) (hn : (Lib.decodeN n b0 b1 b2 b3).2 ≤ n') (h0 : c0 = b0)
    (h1 : 1 < (Lib.decodeN n b0 b1 b2 b3).2 → c1 = b1) (h2 : 2 < (Lib.decodeN n b0 b1 b2 b3).2 → c2 = b2) (h3 : 3 < (Lib.decodeN n b0 b1 b2 b3).2 → c3 = b3) :
    Lib.decodeN n' c0 c1 c2 c3 = Lib.decodeN n b0 b1 b2 b3 := by
  subst h0
  have key : ∀ R, Lib.decodeN n c0 b1 b2 b3 = R → ¬ R = (65533, 1) → R.2 ≤ n' → (1 < R.2 → c1 = b1) → (2 < R.2 → c2 = b2) → (3 < R.2 → c3 = b3) → Lib.decodeN n' c0 c1 c2 c3 = R := by
    intro R hR hne hn h1 h2 h3
    unfold Lib.decodeN at hR
    split at hR
    · subst hR
      unfold Lib.decodeN
      rw [if_pos (by assumption)]
    · split at hR
      · split at hR
        · subst hR
          have e1 := h1 (show 1 < 2 by decide)
          subst e1
          simp only at hn
          unfold Lib.decodeN
          rw [if_neg (by omega), if_pos (by omega), if_pos (by assumption)]
        · exact absurd hR.symm hne
      · split at hR
        · split at hR
          · subst hR
            have e1 := h1 (show 1 < 3 by decide)
            have e2 := h2 (show 2 < 3 by decide)
            subst e1; subst e2
            simp only at hn
            unfold Lib.decodeN
            rw [if_neg (by omega), if_neg (by omega), if_pos (by omega), if_pos (by assumption)]
          · exact absurd hR.symm hne
        · split at hR
          · split at hR
            · subst hR
              have e1 := h1 (show 1 < 4 by decide)
              have e2 := h2 (show 2 < 4 by decide)
              have e3 := h3 (show 3 < 4 by decide)
              subst e1; subst e2; subst e3
              simp only at hn
              unfold Lib.decodeN
              rw [if_neg (by omega), if_neg (by omega), if_neg (by omega), if_pos (by omega), if_pos (by assumption)]
            · exact absurd hR.symm hne
          · exact absurd hR.symm hne
  exact key _ rfl hne hn h1 h2 h3

theorem decode_local (x s : ByteArray) (i p : Nat) (hm : mayB x i = true) (hp : p + width x i ≤ s.size) (hb : ∀ j, j < width x i → byteAt s (p + j) = byteAt x (i + j)) : Utf8.decode s p = Utf8.decode x i := by
  have hne : ¬ Utf8.decode x i = (65533, 1) := by
    intro e
    unfold mayB at hm
    rw [e] at hm
    exact absurd hm (by decide)
  have hw := width_pos x i
  unfold width at hp hb hw
  rw [Lib.decode_at] at hp hb hw hne
  rw [Lib.decode_at, Lib.decode_at]
  refine decodeN_local _ _ _ _ _ _ _ _ _ _ hne (by omega) ?_ ?_ ?_ ?_
  · exact congrArg UInt8.toNat (hb 0 (by omega))
  · exact fun h => congrArg UInt8.toNat (hb 1 h)
  · exact fun h => congrArg UInt8.toNat (hb 2 h)
  · exact fun h => congrArg UInt8.toNat (hb 3 h)

theorem rune_same (x s : ByteArray) (i p : Nat) (r : List UInt8) (hi : i < x.size) (hm : mayB x i = true) (h : Lies s p (bytesAt x i (width x i)) r) : mayB s p = true ∧ width s p = width x i := by
  have hwl := width_le x i hi
  have hw := width_pos x i
  have e : Utf8.decode s p = Utf8.decode x i := by
    refine decode_local x s i p hm ?_ ?_
    · have := (h.get (width x i - 1) _ (bytesAt_get x i _ _ hwl (by omega))).1
      omega
    · intro j hj
      exact (h.get j _ (bytesAt_get x i _ _ hwl hj)).2
  unfold mayB width
  unfold mayB at hm
  rw [e]
  exact ⟨hm, rfl⟩

/-! the quoted form comes back -/
theorem mayB_ascii (s : ByteArray) (p : Nat) (hp : p < s.size) (c : UInt8) (h : byteAt s p = c) (h1 : c.toNat < 128) (h2 : mayR c.toNat 1 = false) : mayB s p = false := by
  cases hm : mayB s p with
  | false => rfl
  | true => exact absurd h (mayB_not s p hp hm c h1 h2)
theorem qstep (s : ByteArray) (p : Nat) (acc : List UInt8) (hp : p < s.size) : quotedFrom s s.size p acc =
    if mayB s p || byteAt s p == 32 then quotedFrom s s.size (p + width s p) (acc ++ bytesAt s p (width s p))
    else if byteAt s p = 34 then some (acc, p + 1)
    else if byteAt s p = 92 then
      match escB s (p + 1) with
      | some (c, n) => quotedFrom s s.size (p + 1 + n) (acc ++ [c])
      | none => none
    else none := by
  have hw := width_pos s p
  obtain ⟨m, hm⟩ : ∃ m, s.size = m + 1 := ⟨s.size - 1, by omega⟩
  have e : quotedFrom s s.size p acc = quotedFrom s (m + 1) p acc := by rw [hm]
  rw [e, quotedFrom, if_pos hp]
  rw [quotedFrom_fuel s m s.size (p + width s p) _ (by omega) (by omega)]
  cases hE : escB s (p + 1) with
  | none => rfl
  | some cn =>
    obtain ⟨c, n⟩ := cn
    simp only []
    rw [quotedFrom_fuel s m s.size (p + 1 + n) _ (by omega) (by omega)]

theorem hexV_hexD (n : Nat) (h : n < 16) : hexV (hexD n) = some n := by
  have : ∀ k : Fin 16, hexV (hexD k.val) = some k.val := by decide
  exact this ⟨n, h⟩
theorem hexD_notq (n : Nat) (h : n < 16) : ¬ hexD n = 34 ∧ ¬ hexD n = 92 := by
  have : ∀ k : Fin 16, ¬ hexD k.val = 34 ∧ ¬ hexD k.val = 92 := by decide
  exact this ⟨n, h⟩

theorem back_hex (s : ByteArray) : ∀ (bs : List UInt8) (p : Nat) (acc r : List UInt8), Lies s p (bs.flatMap hexQ) r → quotedFrom s s.size p acc = quotedFrom s s.size (p + (bs.flatMap hexQ).length) (acc ++ bs) := by
  intro bs
  induction bs with
  | nil => intro p acc r h; simp
  | cons c bs ih =>
    intro p acc r h
    have hc := c.toNat_lt
    rw [List.flatMap_cons] at h
    have h0 := h.get 0 92 rfl
    have h1 := h.get 1 (hexD (c.toNat / 16)) rfl
    have h2 := h.get 2 (hexD (c.toNat % 16)) rfl
    rw [Nat.add_zero] at h0
    have hE : escB s (p + 1) = some (c, 2) := by
      have hq := hexD_notq (c.toNat / 16) (by omega)
      rw [escB, if_neg (by rw [h1.2]; exact fun hh => hh.2.elim hq.1 hq.2), if_pos h2.1, h1.2, show p + 1 + 1 = p + 2 from rfl, h2.2, hexV_hexD _ (by omega), hexV_hexD _ (by omega), esc2]
      congr 2
      apply UInt8.toNat_inj.1
      simp
      omega
    have hm := mayB_ascii s p h0.1 92 h0.2 (by decide) (by decide)
    have h3 : Lies s (p + 3) (bs.flatMap hexQ) r := h.next
    rw [qstep s p acc h0.1, hm, if_neg (by rw [h0.2]; decide), if_neg (by rw [h0.2]; decide), if_pos h0.2, hE]
    simp only []
    rw [show p + 1 + 2 = p + 3 from rfl, ih (p + 3) (acc ++ [c]) r h3, List.flatMap_cons, List.length_append]
    congr 1
    · show p + 3 + _ = p + (3 + _)
      omega
    · simp

theorem back_quoted (x s : ByteArray) : ∀ (f i p : Nat) (acc r : List UInt8), x.size ≤ i + f → Lies s p (quoteFrom x f i ++ [34]) r →
    quotedFrom s s.size p acc = some (acc ++ x.data.toList.drop i, p + (quoteFrom x f i).length + 1) := by
  have fin : ∀ (f i p : Nat) (acc r : List UInt8), ¬ i < x.size → Lies s p (quoteFrom x f i ++ [34]) r → quotedFrom s s.size p acc = some (acc ++ x.data.toList.drop i, p + (quoteFrom x f i).length + 1) := by
    intro f i p acc r hi h
    rw [quoteFrom_endI x f i hi] at h ⊢
    have h0 := h.get 0 34 rfl
    rw [Nat.add_zero] at h0
    have hm := mayB_ascii s p h0.1 34 h0.2 (by decide) (by decide)
    rw [qstep s p acc h0.1, hm, if_neg (by rw [h0.2]; decide), if_pos h0.2, List.drop_eq_nil_of_le (by rw [← Lib.size_eq]; omega)]
    simp
  intro f
  induction f with
  | zero => intro i p acc r hf h; exact fin 0 i p acc r (by omega) h
  | succ f ih =>
    intro i p acc r hf h
    by_cases hi : i < x.size
    · have hw := width_pos x i
      have hwl := width_le x i hi
      have hd : x.data.toList.drop i = bytesAt x i (width x i) ++ x.data.toList.drop (i + width x i) := by
        unfold bytesAt
        rw [← List.drop_drop, List.take_append_drop]
      rw [quoteFrom, if_pos hi, List.append_assoc] at h
      have h2 := h.next
      have hgo : ∀ acc', quotedFrom s s.size (p + (quote1 x i).length) acc' = some (acc' ++ x.data.toList.drop (i + width x i), p + (quote1 x i).length + (quoteFrom x f (i + width x i)).length + 1) := fun acc' => ih (i + width x i) _ acc' r (by omega) h2
      rw [quoteFrom, if_pos hi, List.length_append, hd, ← Nat.add_assoc, ← List.append_assoc]
      rw [Lies.move] at h
      clear h2
      -- what the escape says is the rune's bytes
      suffices hs : quotedFrom s s.size p acc = quotedFrom s s.size (p + (quote1 x i).length) (acc ++ bytesAt x i (width x i)) by
        rw [hs, hgo]
      by_cases hmb : mayB x i = true
      · have hq : quote1 x i = bytesAt x i (width x i) := by rw [quote1, hmb]; rfl
        rw [hq] at h ⊢
        obtain ⟨g1, g2⟩ := rune_same x s i p _ hi hmb h
        have hbs := h.bytes
        have hl := bytesAt_length x i (width x i) hwl
        rw [hl] at hbs ⊢
        have h0 := (h.get 0 _ (bytesAt_get x i _ 0 hwl (by omega))).1
        rw [qstep s p acc (by omega), g1, if_pos (by rw [Bool.true_or]), g2, hbs]
      · have hmf : mayB x i = false := by simpa using hmb
        by_cases h32 : byteAt x i = 32
        · have hw1 := width_ascii x i hi 32 h32 (by decide)
          have hq : quote1 x i = [32] := by rw [quote1, hmf, h32, if_pos (by decide), hw1, byte_ex x i hi, h32]
          rw [hq] at h ⊢
          have h0 := h.get 0 32 rfl
          rw [Nat.add_zero] at h0
          have hws := width_ascii s p h0.1 32 h0.2 (by decide)
          rw [qstep s p acc h0.1, if_pos (by rw [h0.2]; simp), hws, byte_ex s p h0.1, h0.2, hw1, byte_ex x i hi, h32]
          rfl
        · by_cases hqq : byteAt x i = 34 ∨ byteAt x i = 92
          · have hw1 : width x i = 1 := by
              rcases hqq with e | e
              · exact width_ascii x i hi 34 e (by decide)
              · exact width_ascii x i hi 92 e (by decide)
            have hq : quote1 x i = [92, byteAt x i] := by
              rcases hqq with e | e <;> (rw [quote1, hmf, e]; rfl)
            rw [hq] at h ⊢
            have h0 := h.get 0 92 rfl
            have h1 := h.get 1 (byteAt x i) rfl
            rw [Nat.add_zero] at h0
            have hm := mayB_ascii s p h0.1 92 h0.2 (by decide) (by decide)
            have hE : escB s (p + 1) = some (byteAt x i, 1) := by rw [escB, if_pos ⟨h1.1, by rw [h1.2]; exact hqq⟩, h1.2]
            rw [qstep s p acc h0.1, hm, if_neg (by rw [h0.2]; decide), if_neg (by rw [h0.2]; decide), if_pos h0.2, hE, hw1, byte_ex x i hi]
            rfl
          · have n34 : ¬ byteAt x i = 34 := fun e => hqq (.inl e)
            have n92 : ¬ byteAt x i = 92 := fun e => hqq (.inr e)
            have hq : quote1 x i = (bytesAt x i (width x i)).flatMap hexQ := by
              rw [quote1, hmf, if_neg (by simpa using h32), if_neg (by simp [n34, n92])]
            rw [hq] at h ⊢
            exact back_hex s _ p acc _ h
    · exact fin (f + 1) i p acc r hi h

/-! the plain form comes back -/
theorem back_plain (x s : ByteArray) (p : Nat) (r : List UInt8) (hr : r = [] ∨ ∃ r', r = 32 :: r') (hp : p ≤ s.size) (h : Lies s p x.data.toList r) : ∀ (f i g : Nat), i ≤ x.size → x.size ≤ i + f → s.size ≤ p + i + g → plainFrom x f i = true → runPlain s g (p + i) = p + x.size := by
  have hlast := h.last hp
  rw [← Lib.size_eq] at hlast
  have stop : ∀ g, runPlain s g (p + x.size) = p + x.size := by
    intro g
    cases g with
    | zero => rfl
    | succ g =>
      rw [runPlain]
      rcases hr with rfl | ⟨r', rfl⟩
      · rw [if_neg (by simp at hlast; omega)]
      · have h1 : Lies s p (x.data.toList ++ [32]) r' := by rw [Lies.move]; exact h
        have h0 := h1.next.get 0 32 rfl
        rw [Nat.add_zero, ← Lib.size_eq] at h0
        rw [if_pos h0.1, mayB_ascii s _ h0.1 32 h0.2 (by decide) (by decide), if_neg (by decide)]
  intro f
  induction f with
  | zero =>
    intro i g hi hf hg _
    obtain rfl : i = x.size := by omega
    exact stop g
  | succ f ih =>
    intro i g hi hf hg hpl
    by_cases hlt : i < x.size
    · have hw := width_pos x i
      have hwl := width_le x i hlt
      rw [plainFrom, if_pos hlt, Bool.and_eq_true] at hpl
      have hd : x.data.toList = x.data.toList.take i ++ (bytesAt x i (width x i) ++ x.data.toList.drop (i + width x i)) := by
        unfold bytesAt
        rw [← List.drop_drop, List.take_append_drop, List.take_append_drop]
      have h1 := h
      rw [hd] at h1
      have h2 := h1.next
      have hti : (x.data.toList.take i).length = i := by rw [List.length_take, ← Lib.size_eq]; omega
      rw [hti, Lies.move] at h2
      obtain ⟨g1, g2⟩ := rune_same x s i (p + i) _ hlt hpl.1 h2
      have h0 := (h2.get 0 _ (bytesAt_get x i _ 0 hwl (by omega))).1
      obtain ⟨g, rfl⟩ : ∃ m, g = m + 1 := ⟨g - 1, by omega⟩
      rw [runPlain, if_pos (by omega), g1, if_pos rfl, g2, Nat.add_assoc]
      exact ih (i + width x i) g hwl (by omega) (by omega) hpl.2
    · obtain rfl : i = x.size := by omega
      exact stop g

theorem back_first (x s : ByteArray) (p : Nat) (r : List UInt8) (hr : r = [] ∨ ∃ r', r = 32 :: r') (hp : p ≤ s.size) (h : Lies s p (quoteB x) r) : firstAt s p = some (x, p + (quoteB x).length) := by
  unfold quoteB at h ⊢
  cases hpl : plainB x with
  | false =>
    rw [hpl, if_neg (by decide)] at h
    rw [if_neg (by decide)]
    have h0 := h.get 0 34 rfl
    rw [Nat.add_zero] at h0
    have h1 : Lies s (p + 1) (quoteFrom x x.size 0 ++ [34]) r := by
      have := Lies.next (a := [34]) (b := quoteFrom x x.size 0 ++ [34]) h
      exact this
    have hb := back_quoted x s x.size 0 (p + 1) [] r (by omega) h1
    rw [firstAt, if_pos h0, hb]
    simp only [List.nil_append, List.drop_zero, List.length_cons, List.length_append, List.length_nil]
    have e : (⟨x.data.toList.toArray⟩ : ByteArray) = x := ba_ext rfl
    rw [e]
    congr 2
    omega
  | true =>
    rw [hpl, if_pos rfl] at h
    rw [if_pos rfl]
    have hpl2 := hpl
    unfold plainB at hpl2
    rw [Bool.and_eq_true, decide_eq_true_eq] at hpl2
    have hrun := back_plain x s p r hr hp h x.size 0 s.size (by omega) (by omega) (by omega) hpl2.1
    rw [Nat.add_zero] at hrun
    have hlen : x.data.toList.length = x.size := (Lib.size_eq x).symm
    have hx0 : 0 < x.size := by omega
    have hpf := hpl2.1
    obtain ⟨m, hm⟩ : ∃ m, x.size = m + 1 := ⟨x.size - 1, by omega⟩
    rw [hm, plainFrom, if_pos hx0, Bool.and_eq_true] at hpf
    have hb0 : byteAt s p = byteAt x 0 := by
      have h3 := (h.get 0 (byteAt x 0) (by
        have e : byteAt x 0 = x[0] := get_lt x 0 hx0
        rw [e]
        exact List.getElem?_eq_getElem (by rw [hlen]; exact hx0))).2
      exact h3
    have n34 := (mayB_bytes x 0 hx0 hpf.1).1
    have hbs := h.bytes
    rw [firstAt, if_neg (by rw [hb0]; exact fun hh => n34 hh.2), hrun, if_neg (by omega), hlen]
    congr 2
    apply ba_ext
    rw [extract_bytes, ← hlen]
    exact hbs

theorem back_split (s : ByteArray) : ∀ (l : List ByteArray) (x : ByteArray) (f p : Nat) (acc : List ByteArray), p ≤ s.size → s.size < p + f → Lies s p (joinL (x :: l)) [] → splitFrom s f p acc = some (acc ++ (x :: l)) := by
  intro l
  induction l with
  | nil =>
    intro x f p acc hp hf h
    obtain ⟨f, rfl⟩ : ∃ m, f = m + 1 := ⟨f - 1, by omega⟩
    rw [joinL_cons, tailB_nil, List.append_nil] at h
    have hlast := h.last hp
    rw [splitFrom, back_first x s p [] (.inl rfl) hp h]
    simp only []
    rw [if_pos (by simpa using hlast)]
  | cons y l ih =>
    intro x f p acc hp hf h
    obtain ⟨f, rfl⟩ : ∃ m, f = m + 1 := ⟨f - 1, by omega⟩
    rw [joinL_cons, tailB_cons, ← joinL_cons, ← List.append_nil (quoteB x ++ 32 :: joinL (y :: l))] at h
    have h1 : Lies s p (quoteB x) (32 :: joinL (y :: l)) := by
      rw [List.append_nil, Lies.move, List.append_nil] at h
      exact h
    have h2 : Lies s (p + (quoteB x).length) (32 :: joinL (y :: l)) [] := by
      rw [List.append_nil] at h
      exact h.next
    have h3 : Lies s (p + (quoteB x).length + 1) (joinL (y :: l)) [] := Lies.next (a := [32]) (b := joinL (y :: l)) h2
    have h0 := h2.get 0 32 rfl
    rw [Nat.add_zero] at h0
    rw [splitFrom, back_first x s p _ (.inr ⟨_, rfl⟩) hp h1]
    simp only []
    rw [if_neg (by omega), if_pos h0.2, ih y f _ _ (by omega) (by omega) h3]
    simp

theorem joinL_pos (x : ByteArray) (l : List ByteArray) : 0 < (joinL (x :: l)).length := by
  rw [joinL_cons, List.length_append]
  have : 0 < (quoteB x).length := by
    unfold quoteB
    cases hpl : plainB x with
    | false => simp
    | true =>
      unfold plainB at hpl
      rw [Bool.and_eq_true, decide_eq_true_eq] at hpl
      rw [if_pos rfl, ← Lib.size_eq]
      omega
  omega

/-- what a joined line splits into -/
theorem split_join (l : List ByteArray) (hJ : (joinL l).length ≤ 1099511627776) (k : Nat) (hk : 2 * (joinL l).length + 1 < k) : word_Split.f k ⟨(joinL l).toArray⟩ = some (l, 0) := by
  have hz : (⟨(joinL l).toArray⟩ : ByteArray).size = (joinL l).length := by rw [Lib.size_eq]
  rw [word_Split_f _ (by omega) k (by omega)]
  cases l with
  | nil => rw [if_pos (by rw [hz, joinL_nil]; rfl)]
  | cons x l =>
    have hp := joinL_pos x l
    rw [if_neg (by omega), back_split _ l x _ 0 [] (by omega) (by omega) (by unfold Lies; simp)]
    rfl

/-- THE PLAIN LAW of WordBack -/
theorem WordBack_f (l : List ByteArray) (k : Nat) (hk : 20000 < k) : cachepotlaw25_WordBack.f k l = some true := by
  obtain ⟨t, h1, h4, _, h5, h2, _⟩ := texts20 l k (by omega)
  unfold cachepotlaw25_WordBack.f
  rw [h1, Option.bind_some, h2, Option.bind_some, split_join t (by omega) k (by omega), Option.bind_some, alive_f k (by omega), Option.bind_some, if_pos rfl, if_pos rfl, same_f t (by omega) k (by omega)]
  rfl

end Go.Proofs.YtfaelejeihmgcaaDoor.Wd
