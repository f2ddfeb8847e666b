/-
  Plain law: Short, Texts; the lengths of quotes; the two Joins; the law WordQuotes answers true.
-/
import Derived.Test.YtfaelejeihmgcaaDoorPureC
import Derived.Test.YtfaelejeihmgcaaDoorWd9
namespace Go.Proofs.YtfaelejeihmgcaaDoor.Wd
open Go.RowKit Go.Proofs.YtfaelejeihmgcaaDoorW.PrintWords Go.Proofs.YtfaelejeihmgcaaDoorW.PrintLast Go.Proofs.YtfaelejeihmgcaaDoorW.PrintMore

/-- the first bytes of a text, at most m of them -/
def cut (s : ByteArray) (m : Nat) : ByteArray := s.extract 0 (min s.size m)
theorem cut_size (s : ByteArray) (m : Nat) : (cut s m).size = min s.size m := by unfold cut; simp
theorem short_f (s : ByteArray) (m : Nat) : cachepotbook_Short.f s (m : Int) = some (cut s m) := by
  have e : mn (s.size : Int) (m : Int) = ((min s.size m : Nat) : Int) := by unfold mn; split <;> omega
  have e2 : ((min s.size m : Nat) : Int).toNat = min s.size m := by omega
  unfold cachepotbook_Short.f cut
  rw [e, if_pos (by omega), if_pos (by omega), e2]

/-- Texts: at most n texts, each at most m bytes -/
def textsL (l : List ByteArray) (n m : Nat) : List ByteArray := (l.take n).map fun s => cut s m
theorem texts_l0 (l : List ByteArray) (n m : Nat) (hn : n ≤ 1000000) : ∀ (d i k : Nat) (acc : List ByteArray), n - i ≤ d → i ≤ n → d < k → acc.length ≤ i →
    cachepotbook_Texts.l0 k l (n : Int) (m : Int) acc (i : Int) = some (acc ++ ((l.take n).drop i).map fun s => cut s m) := by
  intro d
  induction d with
  | zero =>
    intro i k acc hd hi hk ha
    obtain ⟨k, rfl⟩ : ∃ j, k = j + 1 := ⟨k - 1, by omega⟩
    have e : (l.take n).drop i = [] := List.drop_eq_nil_of_le (by rw [List.length_take]; omega)
    rw [cachepotbook_Texts.l0, e]
    split
    · rw [if_neg (by omega)]; simp
    · simp
  | succ d ih =>
    intro i k acc hd hi hk ha
    obtain ⟨k, rfl⟩ : ∃ j, k = j + 1 := ⟨k - 1, by omega⟩
    rw [cachepotbook_Texts.l0]
    by_cases h1 : i < l.length
    · rw [if_pos (by omega)]
      by_cases h2 : i < n
      · have hlt : i < (l.take n).length := by rw [List.length_take]; omega
        have e : rdOf ByteArray.empty l (i : Int) = l[i] := by
          unfold rdOf
          rw [show ((i : Nat) : Int).toNat = i by omega, List.getD_eq_getElem?_getD, List.getElem?_eq_getElem h1]
          rfl
        rw [if_pos (by omega), if_pos (by omega), e, short_f, Option.bind_some, if_pos (by omega), wn1 i (by omega), ih (i + 1) k _ (by omega) (by omega) (by omega) (by simp; omega), List.drop_eq_getElem_cons hlt, List.getElem_take, List.map_cons]
        simp
      · have e : (l.take n).drop i = [] := List.drop_eq_nil_of_le (by rw [List.length_take]; omega)
        rw [if_neg (by omega), e]; simp
    · have e : (l.take n).drop i = [] := List.drop_eq_nil_of_le (by rw [List.length_take]; omega)
      rw [if_neg (by omega), e]; simp
theorem texts_f (l : List ByteArray) (n m k : Nat) (hn : n ≤ 1000000) (hk : n < k) : cachepotbook_Texts.f k l (n : Int) (m : Int) = some (textsL l n m) := by
  unfold cachepotbook_Texts.f textsL
  exact texts_l0 l n m hn n 0 k [] (by omega) (by omega) hk (by simp)
theorem textsL_length (l : List ByteArray) (n m : Nat) : (textsL l n m).length ≤ n := by unfold textsL; rw [List.length_map]; exact List.length_take_le _ _
theorem textsL_size (l : List ByteArray) (n m : Nat) : ∀ x ∈ textsL l n m, x.size ≤ m := by
  intro x hx
  unfold textsL at hx
  obtain ⟨y, _, rfl⟩ := List.mem_map.1 hx
  rw [cut_size]; omega

/-! how long a quote is -/
theorem bytesAt_len (s : ByteArray) (i n : Nat) : (bytesAt s i n).length ≤ n := List.length_take_le _ _
theorem quote1_len (s : ByteArray) (i : Nat) : (quote1 s i).length ≤ 3 * width s i := by
  have hw := width_pos s i
  have hb := bytesAt_len s i (width s i)
  unfold quote1
  split
  · omega
  · split
    · simp; omega
    · rw [hexQs_len]; omega
theorem quoteFrom_len (s : ByteArray) : ∀ f i, (quoteFrom s f i).length ≤ 3 * (s.size - i) := by
  intro f
  induction f with
  | zero => intro i; simp [quoteFrom]
  | succ f ih =>
    intro i
    rw [quoteFrom]
    by_cases h : i < s.size
    · have hw := width_pos s i
      have hwl := width_le s i h
      have h1 := quote1_len s i
      have h2 := ih (i + width s i)
      rw [if_pos h, List.length_append]
      omega
    · rw [if_neg h]; simp
theorem quoteB_len (s : ByteArray) : (quoteB s).length ≤ 3 * s.size + 2 := by
  unfold quoteB
  split
  · rw [← Lib.size_eq]; omega
  · have := quoteFrom_len s s.size 0
    simp; omega

/-! Join -/
def qB (s : ByteArray) : ByteArray := ⟨(quoteB s).toArray⟩
theorem qB_data (s : ByteArray) : (qB s).data.toList = quoteB s := rfl
theorem qB_size (s : ByteArray) : (qB s).size = (quoteB s).length := by rw [Lib.size_eq, qB_data]
def tailB (l : List ByteArray) : List UInt8 := Lib.joinTail [32] (l.map quoteB)
def joinL (l : List ByteArray) : List UInt8 := Lib.join (l.map quoteB) [32]
theorem tailB_nil : tailB [] = [] := rfl
theorem tailB_cons (x : ByteArray) (l : List ByteArray) : tailB (x :: l) = 32 :: (quoteB x ++ tailB l) := by simp [tailB, Lib.joinTail]
theorem joinL_nil : joinL [] = [] := rfl
theorem joinL_cons (x : ByteArray) (l : List ByteArray) : joinL (x :: l) = quoteB x ++ tailB l := by
  unfold joinL tailB
  rw [List.map_cons, Lib.join_cons]
theorem tailB_len (m : Nat) (l : List ByteArray) (h : ∀ x ∈ l, x.size ≤ m) : (tailB l).length ≤ (3 * m + 3) * l.length := by
  induction l with
  | nil => simp [tailB_nil]
  | cons x l ih =>
    have h1 := ih fun y hy => h y (List.mem_cons_of_mem _ hy)
    have h2 := quoteB_len x
    have h3 := h x (List.mem_cons_self ..)
    rw [tailB_cons, List.length_cons, List.length_append, List.length_cons, Nat.mul_succ]
    omega
theorem joinL_len (m : Nat) (l : List ByteArray) (h : ∀ x ∈ l, x.size ≤ m) : (joinL l).length ≤ (3 * m + 3) * l.length := by
  cases l with
  | nil => simp [joinL_nil]
  | cons x l =>
    have h1 := tailB_len m l fun y hy => h y (List.mem_cons_of_mem _ hy)
    have h2 := quoteB_len x
    have h3 := h x (List.mem_cons_self ..)
    rw [joinL_cons, List.length_append, List.length_cons, Nat.mul_succ]
    omega

theorem rQuote_f (s : ByteArray) (h : s.size ≤ 1099511627776) : cachepotref3_Quote.f s = some (qB s) := if_pos h
theorem wQuote_f (s : ByteArray) (h : s.size ≤ 1099511627776) : word_Quote.f s = some (qB s) := if_pos h
theorem rd_at (l : List ByteArray) (i : Nat) (h : i < l.length) : rdOf ByteArray.empty l (i : Int) = l[i] := by
  unfold rdOf
  rw [show ((i : Nat) : Int).toNat = i by omega, List.getD_eq_getElem?_getD, List.getElem?_eq_getElem h]
  rfl

theorem rjoin_l0 (l : List ByteArray) (hl : l.length ≤ 1048576) (hm : ∀ x ∈ l, x.size ≤ 1048576) : ∀ (d i k : Nat) (out : ByteArray), l.length - i ≤ d → 0 < i → i ≤ l.length → d < k → out.size ≤ 3145731 * i →
    cachepotref3_Join.l0 k l out (i : Int) = some ⟨(out.data.toList ++ tailB (l.drop i)).toArray⟩ := by
  have fin : ∀ (k i : Nat) (out : ByteArray), l.length ≤ i → cachepotref3_Join.l0 (k + 1) l out (i : Int) = some ⟨(out.data.toList ++ tailB (l.drop i)).toArray⟩ := by
    intro k i out h
    rw [cachepotref3_Join.l0, if_neg (by omega), List.drop_eq_nil_of_le h, tailB_nil, List.append_nil]
  intro d
  induction d with
  | zero =>
    intro i k out hd h0 hi hk ho
    obtain ⟨k, rfl⟩ : ∃ j, k = j + 1 := ⟨k - 1, by omega⟩
    exact fin k i out (by omega)
  | succ d ih =>
    intro i k out hd h0 hi hk ho
    obtain ⟨k, rfl⟩ : ∃ j, k = j + 1 := ⟨k - 1, by omega⟩
    by_cases h : i < l.length
    · have hx := hm _ (List.getElem_mem h)
      have hq := quoteB_len l[i]
      have hqz := qB_size l[i]
      have e1 : (⟨#[32]⟩ : ByteArray).size = 1 := rfl
      have hz1 : (out ++ (⟨#[32]⟩ : ByteArray)).size = out.size + 1 := by rw [app_size, e1]
      rw [cachepotref3_Join.l0, if_pos (by omega), if_pos (by omega), if_pos (by omega), if_pos (by omega), rd_at l i h, rQuote_f _ (by omega), Option.bind_some, if_pos (by omega), wn1 i (by omega),
        ih (i + 1) k _ (by omega) (by omega) (by omega) (by omega) (by rw [app_size]; omega), List.drop_eq_getElem_cons h, tailB_cons, app_data, app_data, qB_data]
      simp
    · exact fin k i out (by omega)

theorem rJoin_f (l : List ByteArray) (hl : l.length ≤ 1048576) (hm : ∀ x ∈ l, x.size ≤ 1048576) (k : Nat) (hk : l.length + 1 < k) : cachepotref3_Join.f k l = some ⟨(joinL l).toArray⟩ := by
  obtain ⟨k, rfl⟩ : ∃ j, k = j + 1 := ⟨k - 1, by omega⟩
  unfold cachepotref3_Join.f
  cases l with
  | nil => rfl
  | cons x l =>
    have hx := hm x (List.mem_cons_self ..)
    have hq := quoteB_len x
    have hqz := qB_size x
    have e0 : (⟨#[]⟩ : ByteArray).size = 0 := rfl
    have hlen : (x :: l).length = l.length + 1 := rfl
    have e1 : wrap64 ((0 : Int) + 1) = ((1 : Nat) : Int) := wn1 0 (by omega)
    have hr : rdOf ByteArray.empty (x :: l) 0 = x := rfl
    rw [cachepotref3_Join.l0, if_pos (by omega), if_neg (by decide), if_pos (by decide), hr, rQuote_f _ (by omega), Option.bind_some, if_pos (by omega), e1,
      rjoin_l0 (x :: l) hl hm (x :: l).length 1 k _ (by omega) (by omega) (by omega) (by omega) (by rw [app_size]; omega), joinL_cons, app_data, qB_data]
    rfl

/-! Pick -/
theorem pick_f (a : Int) (n : Nat) (hn : 0 < n) (hn2 : n ≤ 1099511627776) : ∃ j : Nat, j < n ∧ cachepotbook_Pick.f a (n : Int) = some (j : Int) := by
  unfold cachepotbook_Pick.f
  have hlt := Int.tmod_lt_of_pos a (show (0 : Int) < (n : Int) by omega)
  have hgt : -(n : Int) < Int.tmod a (n : Int) := by
    have := Int.lt_tmod_of_pos a (show (0 : Int) < (n : Int) by omega)
    exact this
  rw [if_neg (by omega)]
  by_cases h : Int.tmod a (n : Int) < 0
  · rw [if_pos h]
    generalize Int.tmod a (n : Int) = x at *
    have e := w64 (x + (n : Int)) (by omega) (by omega)
    exact ⟨(x + (n : Int)).toNat, by omega, by rw [e]; congr 1; omega⟩
  · rw [if_neg h]
    generalize Int.tmod a (n : Int) = x at *
    exact ⟨x.toNat, by omega, by congr 1; omega⟩

/-! the program's Join -/
theorem wjoin_l0 (l : List ByteArray) (hl : l.length ≤ 1048576) (hm : ∀ x ∈ l, x.size ≤ 1048576) (hJ : (joinL l).length ≤ 1099511627776) : ∀ (d i k : Nat), l.length - i ≤ d → i ≤ l.length → d < k →
    word_Join.l0 k ((l.take i).map qB) l (l.length : Int) (i : Int) = some ⟨(joinL l).toArray⟩ := by
  have hjb : joinB (l.map qB) (⟨#[32]⟩ : ByteArray) = joinL l := by
    unfold joinB joinL
    rw [List.map_map]
    rfl
  have fin : ∀ (k i : Nat), i = l.length → word_Join.l0 (k + 1) ((l.take i).map qB) l (l.length : Int) (i : Int) = some ⟨(joinL l).toArray⟩ := by
    intro k i h
    rw [word_Join.l0, if_neg (by omega), h, List.take_length, strings_Join.f, if_pos (by rw [hjb, List.length_map]; exact ⟨by omega, hJ⟩), Option.bind_some, hjb]
  intro d
  induction d with
  | zero =>
    intro i k hd hi hk
    obtain ⟨k, rfl⟩ : ∃ j, k = j + 1 := ⟨k - 1, by omega⟩
    exact fin k i (by omega)
  | succ d ih =>
    intro i k hd hi hk
    obtain ⟨k, rfl⟩ : ∃ j, k = j + 1 := ⟨k - 1, by omega⟩
    by_cases h : i < l.length
    · have hx := hm _ (List.getElem_mem h)
      have hlen : ((l.take i).map qB).length ≤ i := by rw [List.length_map]; exact List.length_take_le _ _
      have e : (l.take i).map qB ++ [qB l[i]] = (l.take (i + 1)).map qB := by
        rw [List.take_succ_eq_append_getElem h, List.map_append]
        rfl
      rw [word_Join.l0, if_pos (by omega), if_pos (by omega), if_pos (by omega), rd_at l i h, wQuote_f _ (by omega), Option.bind_some, if_pos (by omega), wn1 i (by omega), e]
      exact ih (i + 1) k (by omega) (by omega) (by omega)
    · exact fin k i (by omega)
theorem wJoin_f (l : List ByteArray) (hl : l.length ≤ 1048576) (hm : ∀ x ∈ l, x.size ≤ 1048576) (hJ : (joinL l).length ≤ 1099511627776) (k : Nat) (hk : l.length < k) : word_Join.f k l = some ⟨(joinL l).toArray⟩ := by
  unfold word_Join.f
  exact wjoin_l0 l hl hm hJ l.length 0 k (by omega) (by omega) hk

theorem alive_f (k : Nat) (hk : 40 ≤ k) : cachepotlaw25_alive.f k = some true := by
  obtain ⟨m, rfl⟩ : ∃ m, k = 40 + m := ⟨k - 40, by omega⟩
  clear hk
  induction m with
  | zero => exact alive_true
  | succ m ih => exact cachepotlaw25_alive.mono _ _ ih

/-- the texts of an argument list, as WordQuotes and WordBack take them -/
theorem texts20 (l : List ByteArray) (k : Nat) (hk : 2000 < k) : ∃ t : List ByteArray, cachepotbook_Texts.f k l 20 60 = some t ∧ t.length ≤ 20 ∧ (∀ x ∈ t, x.size ≤ 60) ∧ (joinL t).length ≤ 4000 ∧
    word_Join.f k t = some ⟨(joinL t).toArray⟩ ∧ cachepotref3_Join.f k t = some ⟨(joinL t).toArray⟩ := by
  have hTl := textsL_length l 20 60
  have hTs := textsL_size l 20 60
  have hL := joinL_len 60 (textsL l 20 60) hTs
  have hJ : (joinL (textsL l 20 60)).length ≤ 4000 := by
    have : (3 * 60 + 3) * (textsL l 20 60).length ≤ 183 * 20 := Nat.mul_le_mul (by decide) hTl
    omega
  exact ⟨textsL l 20 60, texts_f l 20 60 k (by decide) (by omega), hTl, hTs, hJ,
    wJoin_f _ (by omega) (fun x hx => by have := hTs x hx; omega) (by omega) k (by omega), rJoin_f _ (by omega) (fun x hx => by have := hTs x hx; omega) k (by omega)⟩

/-- THE PLAIN LAW of WordQuotes -/
theorem WordQuotes_f (s : ByteArray) (hs : s.size ≤ 1099511627776) (l : List ByteArray) (k : Nat) (hk : 2000 < k) : cachepotlaw25_WordQuotes.f k s l = some true := by
  obtain ⟨t, h1, _, _, _, h2, h3⟩ := texts20 l k hk
  unfold cachepotlaw25_WordQuotes.f
  rw [h1, Option.bind_some, alive_f k (by omega), Option.bind_some, if_pos rfl, wQuote_f s hs, Option.bind_some, rQuote_f s hs, Option.bind_some, if_pos rfl, h2, Option.bind_some, h3, Option.bind_some, beq_self_eq_true]

end Go.Proofs.YtfaelejeihmgcaaDoor.Wd
