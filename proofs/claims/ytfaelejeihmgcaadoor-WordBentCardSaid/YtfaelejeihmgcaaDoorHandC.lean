/-
  word.quoted by hand: the quoted word that a line begins with, written into a strings.Builder; in the form of the printed functions.
-/
import Derived.Test.YtfaelejeihmgcaaDoorHandB
namespace Go.Proofs.YtfaelejeihmgcaaDoor.Wd
open Go.RowKit Go.Proofs.YtfaelejeihmgcaaDoorW.PrintWords Go.Proofs.YtfaelejeihmgcaaDoorW.PrintLast

def quotedR (a0 : ByteArray) : ByteArray × Int × Bool :=
  match quotedFrom a0 a0.size 1 [] with
  | some (l, n) => (⟨l.toArray⟩, (n : Int), true)
  | none => (⟨#[]⟩, 0, false)
def word_quoted.f (a0 : ByteArray) : Option (ByteArray × Int × Bool) := if a0.size ≤ 1099511627776 then some (quotedR a0) else none

theorem slice_at (s : ByteArray) (i n : Nat) (h : i + n ≤ s.size) (W : World) :
    (Instr.slice 9 (.string s) (some (.int .i64 (i : Int))) (some (.int .i64 ((i : Int) + (n : Int)))) none).run Tryd.prog W = .ok (.string (s.extract i (i + n))) W := by
  have := run_slice_string (P := Tryd.prog) W 9 s .i64 .i64 (i : Int) ((i : Int) + (n : Int)) Tryd.underlying9 (by omega) (by omega) (by omega)
  have e : ((i : Int) + (n : Int)).toNat = i + n := by omega
  rw [e] at this
  simpa using this

theorem extract_bytes (s : ByteArray) (i n : Nat) : (s.extract i (i + n)).data.toList = bytesAt s i n := by
  rw [Lib.extract_data, bytesAt]
  congr 1
  omega

theorem bt_get (t : ByteArray) (j : Int) : bt t j = ((t.get! j.toNat).toNat : Int) := by
  unfold bt
  split
  · rename_i h
    rw [get_lt t _ h]
  · rename_i h
    rw [get_ge t _ h]
    rfl

def digR : Option Nat → Option (Int × Bool)
  | some a => some ((a : Int), true)
  | none => some (0, false)
theorem digit_f (k : Nat) (c : UInt8) : word_digit.f (k + 1) (c.toNat : Int) = digR (hexV c) := by
  have hc := c.toNat_lt
  unfold word_digit.f hexV
  by_cases h1 : 48 ≤ c.toNat ∧ c.toNat ≤ 57
  · rw [if_pos (by omega), if_pos h1, word_digit.j0, if_pos (by simp; omega)]
    simp only [digR, Option.some.injEq, Prod.mk.injEq, and_true]
    omega
  · rw [if_neg h1]
    have e : word_digit.j0 (k + 1) (c.toNat : Int) false = digR (if 97 ≤ c.toNat ∧ c.toNat ≤ 102 then some (c.toNat - 87) else none) := by
      rw [word_digit.j0, if_neg (by simp)]
      by_cases h2 : 97 ≤ c.toNat ∧ c.toNat ≤ 102
      · rw [if_pos h2, if_pos (by omega), if_pos (by omega)]
        simp only [digR, Option.some.injEq, Prod.mk.injEq, and_true]
        omega
      · rw [if_neg h2]
        by_cases h3 : (c.toNat : Int) ≥ 97
        · rw [if_pos h3, if_neg (by omega)]; rfl
        · rw [if_neg h3]; rfl
    rw [← e]
    by_cases h3 : (c.toNat : Int) ≥ 48
    · rw [if_pos h3]
      congr 1
      simp
      omega
    · rw [if_neg h3]

theorem hexV_lt {c : UInt8} {a : Nat} (h : hexV c = some a) : a < 16 := by
  unfold hexV at h
  split at h
  · cases h; omega
  · split at h
    · cases h; omega
    · cases h

set_option maxRecDepth 100000 in
theorem or_nib : ∀ a b : Fin 16, Go.bits .or .u8 (((a.val : Nat) : Int) * 16 % 256) ((b.val : Nat) : Int) = 16 * ((a.val : Nat) : Int) + ((b.val : Nat) : Int) := by decide

/-- the escape behind a backslash, as the printed function tells it -/
def escOk (s : ByteArray) (i : Nat) : Option (UInt8 × Nat) → Prop
  | some (c, n) => word_escaped.f 9 (s.extract i s.size) = some ((c.toNat : Int), (n : Int), true)
  | none => ∃ x y, word_escaped.f 9 (s.extract i s.size) = some (x, y, false)

theorem esc_f (s : ByteArray) (i : Nat) : escOk s i (escB s i) := by
  have e0 : bt (s.extract i s.size) 0 = ((byteAt s i).toNat : Int) := by rw [bt_get, get_extract]; rfl
  have e1 : bt (s.extract i s.size) 1 = ((byteAt s (i + 1)).toNat : Int) := by rw [bt_get, get_extract]; rfl
  have ez : (s.extract i s.size).size = s.size - i := by simp
  have en : ((s.extract i s.size).toList = ([] : List UInt8)) ↔ s.size ≤ i := by
    rw [Lib.toList_data, ← List.length_eq_zero_iff, ← Lib.size_eq, ez]
    omega
  unfold escB
  by_cases h0 : i < s.size
  · have hf : word_escaped.f 9 (s.extract i s.size) = if ((byteAt s i).toNat : Int) = 34 then (word_escaped.j0 9 (s.extract i s.size) true) else (word_escaped.j0 9 (s.extract i s.size) (((byteAt s i).toNat : Int) == 92)) := by
      unfold word_escaped.f
      rw [if_neg (by rw [en]; omega), ez, if_pos (by omega), e0]
    by_cases h1 : byteAt s i = 34 ∨ byteAt s i = 92
    · rw [if_pos ⟨h0, h1⟩]
      show word_escaped.f 9 (s.extract i s.size) = _
      have hj : word_escaped.j0 9 (s.extract i s.size) true = some (((byteAt s i).toNat : Int), 1, true) := by
        rw [word_escaped.j0, if_pos rfl, ez, if_pos (by omega), e0]
      rw [hf]
      rcases h1 with h1 | h1
      · rw [if_pos (by rw [h1]; rfl)]
        exact hj
      · rw [if_neg (by rw [h1]; decide)]
        have : (((byteAt s i).toNat : Int) == 92) = true := by rw [h1]; rfl
        rw [this]
        exact hj
    · have n34 : ¬ ((byteAt s i).toNat : Int) = 34 := by
        intro h
        exact h1 (.inl (UInt8.toNat_inj.1 (by have : (byteAt s i).toNat = 34 := by omega
                                              simpa using this)))
      have n92 : (((byteAt s i).toNat : Int) == 92) = false := by
        rw [beq_eq_false_iff_ne]
        intro h
        exact h1 (.inr (UInt8.toNat_inj.1 (by have : (byteAt s i).toNat = 92 := by omega
                                              simpa using this)))
      rw [if_neg (fun h => h1 h.2)]
      rw [if_neg n34, n92, word_escaped.j0, if_neg (by simp), ez] at hf
      by_cases h2 : i + 1 < s.size
      · rw [if_pos h2]
        rw [if_neg (by omega), if_pos (by omega), e0, digit_f] at hf
        rw [e1] at hf
        cases ha : hexV (byteAt s i) with
        | none =>
          rw [ha] at hf
          simp only [digR, Option.bind_some] at hf
          rw [if_pos (by omega), digit_f] at hf
          show ∃ x y, word_escaped.f 9 (s.extract i s.size) = some (x, y, false)
          rw [hf]
          cases hb : hexV (byteAt s (i + 1)) with
          | none => exact ⟨_, _, rfl⟩
          | some b => exact ⟨_, _, rfl⟩
        | some a =>
          rw [ha] at hf
          simp only [digR, Option.bind_some] at hf
          rw [if_pos (by omega), digit_f] at hf
          cases hb : hexV (byteAt s (i + 1)) with
          | none =>
            rw [hb] at hf
            show ∃ x y, word_escaped.f 9 (s.extract i s.size) = some (x, y, false)
            rw [hf]
            exact ⟨_, _, rfl⟩
          | some b =>
            rw [hb] at hf
            have h16 := hexV_lt ha
            have h16' := hexV_lt hb
            have := or_nib ⟨a, h16⟩ ⟨b, h16'⟩
            simp only [digR, Option.bind_some, if_true] at hf
            show word_escaped.f 9 (s.extract i s.size) = _
            rw [hf, this]
            simp [Nat.mod_eq_of_lt (show 16 * a + b < 256 by omega)]
      · rw [if_pos (by omega)] at hf
        rw [if_neg h2]
        exact ⟨_, _, hf⟩
  · rw [if_neg (fun h => h0 h.1), if_neg (by omega)]
    refine ⟨0, 0, ?_⟩
    unfold word_escaped.f
    rw [if_pos (by rw [en]; omega), word_escaped.j0, if_neg (by simp), ez, if_pos (by omega)]

theorem esc2_le {a b : Option Nat} {c : UInt8} {n : Nat} (h : esc2 a b = some (c, n)) : n = 2 := by
  cases a <;> cases b <;> simp [esc2] at h
  exact h.2.symm

theorem escB_le {s : ByteArray} {i : Nat} {c : UInt8} {n : Nat} (h : escB s i = some (c, n)) : 1 ≤ n ∧ i + n ≤ s.size := by
  unfold escB at h
  split at h
  · cases h; omega
  · split at h
    · have := esc2_le h
      omega
    · cases h

theorem ret3 {a a' : ByteArray} {b b' : Int} {c c' : Bool} (h : (a, b, c) = (a', b', c')) : Ending.returned (.tuple #[.string a, .int .i64 b, .bool c]) = .returned (.tuple #[.string a', .int .i64 b', .bool c']) := by
  cases h; rfl

theorem quotedFrom_end (s : ByteArray) (fuel pos : Nat) (acc : List UInt8) (h : ¬ pos < s.size) : quotedFrom s fuel pos acc = none := by
  cases fuel with
  | zero => rfl
  | succ f => rw [quotedFrom, if_neg h]

set_option maxHeartbeats 2000000 in
set_option maxRecDepth 100000 in
theorem word_quoted.calls (a0 : ByteArray) (r1 : ByteArray) (r2 : Int) (r3 : Bool) (w : World) (h : word_quoted.f a0 = some (r1, r2, r3)) (hT : Tabs w) :
    Calls Tryd.prog 91 #[.string a0] w fun e w' => e = .returned (.tuple #[.string r1, .int .i64 r2, .bool r3]) ∧ Below w.heap.size w w' := by
  have hs : a0.size ≤ 1099511627776 := by
    unfold word_quoted.f at h
    split at h
    · assumption
    · cases h
  have hr : Aside0 (quotedR a0 = (r1, r2, r3)) := ⟨by unfold word_quoted.f at h; rw [if_pos hs] at h; exact Option.some.inj h⟩
  clear h
  go_enter Tryd.func91, Tryd.ntmps91
  go_wp2
  go_loopw [6] (fun i wr => ∃ (pos fuel : Nat) (acc : List UInt8) (v : Value), i = .int .i64 pos ∧ Bld.Is w.heap.size w.heap.size v acc wr ∧ Below w.heap.size w wr ∧ Aside0 (quotedFrom a0 fuel pos acc = quotedFrom a0 a0.size 1 []) ∧ a0.size ≤ pos + fuel ∧ acc.length ≤ pos) (fun i _ => a0.size - (intOf i).toNat)
  case atStart =>
    exact ⟨1, a0.size, [], .slice none 0 0, rfl, Bld.Is.fresh w, (Below.refl _ w).alloc (Nat.le_refl _) _, ⟨rfl⟩, by omega, by simp⟩
  case round =>
    obtain ⟨pos, fuel, acc, v, rfl, hI, hbw, hq, hfu, hal⟩ := hrel
    by_cases hp : pos < a0.size
    · have hwd := width_pos a0 pos
      have hwl := width_le a0 pos hp
      have hmf := Aside0.mk (may_f a0 pos hp)
      obtain ⟨f, rfl⟩ : ∃ f, fuel = f + 1 := ⟨fuel - 1, by omega⟩
      have hba : byteAt a0 pos = a0[pos] := get_lt a0 pos hp
      have hsl := slice_at a0 pos (width a0 pos) hwl
      have hsz0 := hbw.size
      have q1 := hq.out
      rw [quotedFrom, if_pos hp] at q1
      clear hq
      have hbl : (a0.extract pos (pos + width a0 pos)).size = width a0 pos := by simp; omega
      by_cases hok : (mayB a0 pos || byteAt a0 pos == 32) = true
      · rw [if_pos hok] at q1
        have q2 := Aside0.mk q1
        clear q1
        -- the rune goes in as it stands
        have step : ∀ w1, Below wr.heap.size wr w1 → Calls Tryd.prog 58 #[.pointer (some ⟨w.heap.size, 0, none⟩), .string (a0.extract pos (pos + width a0 pos))] w1 fun e w' => e = .returned (.tuple #[.int .i64 (a0.extract pos (pos + width a0 pos)).size, .nilIface]) ∧ ∃ v', Bld.Is w.heap.size w.heap.size v' (acc ++ bytesAt a0 pos (width a0 pos)) w' ∧ Below w.heap.size w1 w' := by
          intro w1 hb
          have hb' := hb.size
          refine (Bld.writeString w.heap.size w.heap.size v acc _ w1 (hI.below hb) (by rw [hbl]; omega) (by omega)).mono ?_
          rintro e w' ⟨rfl, v', h1, h2, _⟩
          rw [extract_bytes] at h1
          exact ⟨rfl, v', h1, h2⟩
        have hal2 : (acc ++ bytesAt a0 pos (width a0 pos)).length ≤ pos + width a0 pos := by
          rw [List.length_append]
          have : (bytesAt a0 pos (width a0 pos)).length ≤ width a0 pos := List.length_take_le _ _
          omega
        cases hm : mayB a0 pos
        · have h32 : a0[pos] = 32 := by
            rw [hm, Bool.false_or, hba] at hok
            simpa using hok
          have t32 : ((a0[pos].toNat : Int) == 32) = true := by rw [h32]; rfl
          have hmf2 : Aside0 (word_may.f (a0.extract pos a0.size) = some (false, (width a0 pos : Int))) := ⟨by rw [hmf.out, hm]⟩
          clear h32 hm hok hba hmf hbl
          go_wp2_with fail
          refine (word_may.calls _ false (width a0 pos) _ hmf2.out (hT.below hbw)).mono ?_
          rintro e w1 ⟨rfl, hb⟩
          go_wp2_with fail
          refine (step w1 hb).mono ?_
          rintro e w2 ⟨rfl, v', hI2, hb2⟩
          go_wp2
          go_roundw
          case rel => exact ⟨pos + width a0 pos, f, _, v', by simp, hI2, (hbw.trans (hb.mono hsz0)).trans hb2, q2, by omega, hal2⟩
          case measure => simp [intOf]; omega
        · have hmf2 : Aside0 (word_may.f (a0.extract pos a0.size) = some (true, (width a0 pos : Int))) := ⟨by rw [hmf.out, hm]⟩
          clear hm hok hba hmf hbl
          go_wp2_with fail
          refine (word_may.calls _ true (width a0 pos) _ hmf2.out (hT.below hbw)).mono ?_
          rintro e w1 ⟨rfl, hb⟩
          go_wp2_with fail
          refine (step w1 hb).mono ?_
          rintro e w2 ⟨rfl, v', hI2, hb2⟩
          go_wp2
          go_roundw
          case rel => exact ⟨pos + width a0 pos, f, _, v', by simp, hI2, (hbw.trans (hb.mono hsz0)).trans hb2, q2, by omega, hal2⟩
          case measure => simp [intOf]; omega
      · rw [if_neg hok] at q1
        have hm : mayB a0 pos = false := by
          cases h : mayB a0 pos
          · rfl
          · rw [h] at hok; simp at hok
        have h32 : ¬ a0[pos] = 32 := by
          rw [hm, Bool.false_or, hba] at hok
          simpa using hok
        have t32 : ((a0[pos].toNat : Int) == 32) = false := by
          rw [beq_eq_false_iff_ne]
          intro h
          exact h32 (UInt8.toNat_inj.1 (by have : a0[pos].toNat = 32 := by omega
                                           simpa using this))
        have hmf2 : Aside0 (word_may.f (a0.extract pos a0.size) = some (false, (width a0 pos : Int))) := ⟨by rw [hmf.out, hm]⟩
        rw [hba] at q1
        clear h32 hm hok hba hmf hbl hsl
        by_cases h34 : a0[pos] = 34
        · have t34 : ((a0[pos].toNat : Int) == 34) = true := by rw [h34]; rfl
          rw [if_pos h34] at q1
          have q2 := Aside0.mk q1
          clear q1 h34
          go_wp2_with fail
          refine (word_may.calls _ false (width a0 pos) _ hmf2.out (hT.below hbw)).mono ?_
          rintro e w1 ⟨rfl, hb⟩
          go_wp2_with fail
          refine (Bld.string w.heap.size w.heap.size v acc w1 (hI.below hb) (by have := hb.size; omega)).mono ?_
          rintro e w2 ⟨rfl, hb2⟩
          go_wp2
          go_ret3
          refine ⟨ret3 ?_, (hbw.trans (hb.mono hsz0)).trans hb2⟩
          rw [← hr.out, quotedR, ← q2.out]
          simp
        · have t34 : ((a0[pos].toNat : Int) == 34) = false := by
            rw [beq_eq_false_iff_ne]
            intro h
            exact h34 (UInt8.toNat_inj.1 (by have : a0[pos].toNat = 34 := by omega
                                             simpa using this))
          rw [if_neg h34] at q1
          clear h34
          by_cases h92 : a0[pos] = 92
          · have t92 : ((a0[pos].toNat : Int) == 92) = true := by rw [h92]; rfl
            rw [if_pos h92] at q1
            have hes := esc_f a0 (pos + 1)
            clear h92
            cases hE : escB a0 (pos + 1) with
            | none =>
              rw [hE] at q1 hes
              obtain ⟨x, y, hes⟩ := hes
              have hes2 := Aside0.mk hes
              have q2 := Aside0.mk q1
              clear q1 hes hE
              go_wp2_with fail
              refine (word_may.calls _ false (width a0 pos) _ hmf2.out (hT.below hbw)).mono ?_
              rintro e w1 ⟨rfl, hb⟩
              go_wp2_with fail
              refine (word_escaped.calls 9 _ x y false w1 hes2.out).mono ?_
              rintro e w2 ⟨rfl, hb2⟩
              go_wp2
              go_ret3
              refine ⟨ret3 ?_, (hbw.trans (hb.mono hsz0)).trans (hb2.below.mono (by have := hb.size; omega))⟩
              rw [← hr.out, quotedR, ← q2.out]
            | some cn =>
              obtain ⟨c, n⟩ := cn
              rw [hE] at q1 hes
              have hn := escB_le hE
              have hes2 := Aside0.mk hes
              have q2 := Aside0.mk q1
              clear q1 hes hE
              go_wp2_with fail
              refine (word_may.calls _ false (width a0 pos) _ hmf2.out (hT.below hbw)).mono ?_
              rintro e w1 ⟨rfl, hb⟩
              go_wp2_with fail
              refine (word_escaped.calls 9 _ (c.toNat : Int) (n : Int) true w1 hes2.out).mono ?_
              rintro e w2 ⟨rfl, hb2⟩
              have hb3 : Below wr.heap.size wr w2 := hb.trans (hb2.below.mono hb.size)
              go_wp2_with fail
              refine (Bld.writeByte w.heap.size w.heap.size v acc c w2 (hI.below hb3) (by omega) (by have := hb3.size; omega)).mono ?_
              rintro e w3 ⟨rfl, v', hI2, hb4, _⟩
              go_wp2
              go_roundw
              case rel => exact ⟨pos + 1 + n, f, _, v', by simp; omega, hI2, (hbw.trans (hb3.mono hsz0)).trans hb4, q2, by omega, by simp; omega⟩
              case measure => simp [intOf]; omega
          · have t92 : ((a0[pos].toNat : Int) == 92) = false := by
              rw [beq_eq_false_iff_ne]
              intro h
              exact h92 (UInt8.toNat_inj.1 (by have : a0[pos].toNat = 92 := by omega
                                               simpa using this))
            rw [if_neg h92] at q1
            have q2 := Aside0.mk q1
            clear q1 h92
            go_wp2_with fail
            refine (word_may.calls _ false (width a0 pos) _ hmf2.out (hT.below hbw)).mono ?_
            rintro e w1 ⟨rfl, hb⟩
            go_wp2
            go_ret3
            refine ⟨ret3 ?_, hbw.trans (hb.mono hsz0)⟩
            rw [← hr.out, quotedR, ← q2.out]
    · go_wp2
      go_ret3
      refine ⟨ret3 ?_, hbw⟩
      rw [← hr.out, quotedR, ← hq.out, quotedFrom_end _ _ _ _ hp]

end Go.Proofs.YtfaelejeihmgcaaDoor.Wd
