/- The plain evaluator is sound: numbers, texts, equality, constants, operands. -/
import Derived.Test.YtigfokpgohaniaaGreatDoorEvR
import Derived.Laws.StructEq
namespace Go.Ev
open Go

/-! Numbers. -/
theorem ltI_eq (a b : Int) : ltI a b = decide (a < b) := by
  cases a with
  | ofNat m => cases b with
    | ofNat n => simp only [ltI]; rw [Bool.eq_iff_iff, Nat.blt_eq, decide_eq_true_eq]; simp only [Int.ofNat_eq_natCast]; omega
    | negSucc n => simp only [ltI]; rw [Bool.eq_iff_iff, decide_eq_true_eq]; simp only [Int.ofNat_eq_natCast, Int.negSucc_eq, Bool.false_eq_true, false_iff]; omega
  | negSucc m => cases b with
    | ofNat n => simp only [ltI]; rw [Bool.eq_iff_iff, decide_eq_true_eq]; simp only [Int.ofNat_eq_natCast, Int.negSucc_eq, true_iff]; omega
    | negSucc n => simp only [ltI]; rw [Bool.eq_iff_iff, Nat.blt_eq, decide_eq_true_eq]; simp only [Int.negSucc_eq]; omega
theorem eqI_eq (a b : Int) : eqI a b = (a == b) := by
  cases a with
  | ofNat m => cases b with
    | ofNat n => simp only [eqI]; rw [Bool.eq_iff_iff, Nat.beq_eq, beq_iff_eq]; simp only [Int.ofNat_eq_natCast]; omega
    | negSucc n => simp only [eqI]; rw [Bool.eq_iff_iff, beq_iff_eq]; simp only [Int.ofNat_eq_natCast, Int.negSucc_eq, Bool.false_eq_true, false_iff]; omega
  | negSucc m => cases b with
    | ofNat n => simp only [eqI]; rw [Bool.eq_iff_iff, beq_iff_eq]; simp only [Int.ofNat_eq_natCast, Int.negSucc_eq, Bool.false_eq_true, false_iff]; omega
    | negSucc n => simp only [eqI]; rw [Bool.eq_iff_iff, Nat.beq_eq, beq_iff_eq]; simp only [Int.negSucc_eq]; omega
theorem addI_eq (a b : Int) : addI a b = a + b := by cases a <;> cases b <;> rfl
theorem mulI_eq (a b : Int) : mulI a b = a * b := by cases a <;> cases b <;> rfl
theorem subI_eq (a b : Int) : subI a b = a - b := by
  cases a with
  | ofNat m => cases b with
    | ofNat n =>
      simp only [subI]
      cases h : Nat.ble n m
      · have h' : ¬ n ≤ m := by intro e; rw [Nat.ble_eq_true_of_le e] at h; cases h
        simp only [cond_false, Int.negSucc_eq, Int.ofNat_eq_natCast]; omega
      · have h' := Nat.le_of_ble_eq_true h
        simp only [cond_true, Int.ofNat_eq_natCast]; omega
    | negSucc n => rfl
  | negSucc m => rfl
theorem lim_bits (k : IntKind) : lim k = 2 ^ (bif unsigned k then k.bits else k.bits - 1) := by cases k <;> rfl
theorem wrap_i8 (n : Int) : IntKind.wrap .i8 n = if n % 256 ≥ 128 then n % 256 - 256 else n % 256 := by simp [IntKind.wrap, IntKind.signed, IntKind.bits]
theorem wrap_i16 (n : Int) : IntKind.wrap .i16 n = if n % 65536 ≥ 32768 then n % 65536 - 65536 else n % 65536 := by simp [IntKind.wrap, IntKind.signed, IntKind.bits]
theorem wrap_i32 (n : Int) : IntKind.wrap .i32 n = if n % 4294967296 ≥ 2147483648 then n % 4294967296 - 4294967296 else n % 4294967296 := by simp [IntKind.wrap, IntKind.signed, IntKind.bits]
theorem wrap_i64 (n : Int) : IntKind.wrap .i64 n = if n % 18446744073709551616 ≥ 9223372036854775808 then n % 18446744073709551616 - 18446744073709551616 else n % 18446744073709551616 := by simp [IntKind.wrap, IntKind.signed, IntKind.bits]
theorem wrap_u8 (n : Int) : IntKind.wrap .u8 n = n % 256 := by simp [IntKind.wrap, IntKind.signed, IntKind.bits]
theorem wrap_u16 (n : Int) : IntKind.wrap .u16 n = n % 65536 := by simp [IntKind.wrap, IntKind.signed, IntKind.bits]
theorem wrap_u32 (n : Int) : IntKind.wrap .u32 n = n % 4294967296 := by simp [IntKind.wrap, IntKind.signed, IntKind.bits]
theorem wrap_u64 (n : Int) : IntKind.wrap .u64 n = n % 18446744073709551616 := by simp [IntKind.wrap, IntKind.signed, IntKind.bits]
theorem wrapI_eq (k : IntKind) (n : Int) : wrapI k n = k.wrap n := by
  cases n with
  | ofNat m =>
    simp only [wrapI]
    cases h : Nat.blt m (lim k)
    · simp only [cond_false]
      cases k <;> first
        | rfl
        | (simp only [unsigned, cond_true, lim, wrap_u8, wrap_u16, wrap_u32, wrap_u64]; rfl)
    · have h' : m < lim k := by rw [Nat.blt_eq] at h; exact h
      simp only [cond_true]
      cases k <;> simp only [lim] at h' <;> simp only [wrap_i8, wrap_i16, wrap_i32, wrap_i64, wrap_u8, wrap_u16, wrap_u32, wrap_u64, Int.ofNat_eq_natCast] <;> (try split) <;> omega
  | negSucc m =>
    simp only [wrapI]
    cases hu : unsigned k
    · simp only [cond_false]
      cases h : Nat.blt m (lim k)
      · rfl
      · have h' : m < lim k := by rw [Nat.blt_eq] at h; exact h
        simp only [cond_true]
        cases k <;> first
          | (simp [unsigned] at hu; done)
          | (simp only [lim] at h'; simp only [wrap_i8, wrap_i16, wrap_i32, wrap_i64, Int.negSucc_eq]; split <;> omega)
    · rfl
theorem sameK_eq (k l : IntKind) : sameK k l = decide (k = l) := by cases k <;> cases l <;> rfl
theorem mkI_eq (k : IntKind) (n : Int) : mkI k n = some (.int k n) := by rw [mkI, intK_eq]
theorem wrI_eq (k : IntKind) (n : Int) : wrI k n = some (.int k (k.wrap n)) := by rw [wrI, mkI_eq, wrapI_eq]
theorem mkB_eq (b : Bool) : mkB b = some (.bool b) := by cases b <;> rfl

theorem wrap_small (k : IntKind) (m : Nat) (h : m < lim k) : k.wrap (.ofNat m) = .ofNat m := by
  rw [← wrapI_eq k (.ofNat m)]
  have h' : Nat.blt m (lim k) = true := by rw [Nat.blt_eq]; exact h
  show (bif Nat.blt m (lim k) then Int.ofNat m else _) = _
  rw [h']; rfl

theorem lim_le (k : IntKind) : lim k ≤ 2 ^ k.bits := by cases k <;> decide
theorem toNat_ofInt_small (k : IntKind) (m : Nat) (h : m < lim k) : (BitVec.ofInt k.bits (.ofNat m)).toNat = m := by
  have h2 := Nat.lt_of_lt_of_le h (lim_le k)
  rw [BitVec.toNat_ofInt]
  have : (Int.ofNat m % ((2 ^ k.bits : Nat) : Int)) = Int.ofNat m := by
    apply Int.emod_eq_of_lt
    · exact Int.natCast_nonneg m
    · exact Int.ofNat_lt.2 h2
  rw [this]; rfl

section
variable {P : Program} {w : World}

theorem run_binOp_int (op : BinOp) (t : TypeId) (k : IntKind) (a b : Int) (v : AV) (h : intBin op k a b = some v) (hs : op ≠ .shl) (hs' : op ≠ .shr)
    {D : Nat → Prop} {ρ : Nat → Nat} {sh : Nat → Option (TypeId × Nat)} :
    ∃ v', (binOp op t (.int k a) (.int k b)).run P w = .ok v' w ∧ VR D ρ sh v v' := by
  cases op <;> simp only [intBin] at h
  case shl => exact absurd rfl hs
  case shr => exact absurd rfl hs'
  case add => simp only [addV, wrI_eq, addI_eq, Option.some.injEq] at h; subst h; exact ⟨_, by simp [binOp, Op.intArith], .int _ _⟩
  case sub => simp only [subV, wrI_eq, subI_eq, Option.some.injEq] at h; subst h; exact ⟨_, by simp [binOp, Op.intArith], .int _ _⟩
  case mul => simp only [mulV, wrI_eq, mulI_eq, Option.some.injEq] at h; subst h; exact ⟨_, by simp [binOp, Op.intArith], .int _ _⟩
  case andNot => simp [noV] at h
  case quo =>
    simp only [quoV, eqI_eq] at h
    cases hb : (b == 0) with
    | true => rw [hb] at h; simp at h
    | false =>
      rw [hb] at h
      have hb' : ¬ b = 0 := by simpa using hb
      simp only [cond_false, wrI_eq, Option.some.injEq] at h; subst h; exact ⟨_, by simp [binOp, Op.intDiv, hb'], .int _ _⟩
  case rem =>
    simp only [remV, eqI_eq] at h
    cases hb : (b == 0) with
    | true => rw [hb] at h; simp at h
    | false =>
      rw [hb] at h
      have hb' : ¬ b = 0 := by simpa using hb
      simp only [cond_false, mkI_eq, Option.some.injEq] at h; subst h; exact ⟨_, by simp [binOp, Op.intDiv, hb'], .int _ _⟩
  case eql => simp only [eqlV, eqI_eq, mkB_eq, Option.some.injEq] at h; subst h; exact ⟨_, by simp [binOp, Op.intCmp], .bool _⟩
  case neq => simp only [neqV, eqI_eq, mkB_eq, Option.some.injEq] at h; subst h; exact ⟨.bool (!(a == b)), by simp [binOp, Op.intCmp, bne], .bool _⟩
  case lss => simp only [lssV, ltI_eq, mkB_eq, Option.some.injEq] at h; subst h; exact ⟨_, by simp [binOp, Op.intCmp], .bool _⟩
  case leq =>
    simp only [leqV, ltI_eq, mkB_eq, Option.some.injEq] at h; subst h
    have e : (!decide (b < a)) = decide (a ≤ b) := by rw [Bool.eq_iff_iff]; simp
    rw [e]; exact ⟨_, by simp [binOp, Op.intCmp], .bool _⟩
  case gtr => simp only [gtrV, ltI_eq, mkB_eq, Option.some.injEq] at h; subst h; exact ⟨.bool (decide (b < a)), by simp [binOp, Op.intCmp], .bool _⟩
  case geq =>
    simp only [geqV, ltI_eq, mkB_eq, Option.some.injEq] at h; subst h
    have e : (!decide (a < b)) = decide (a ≥ b) := by rw [Bool.eq_iff_iff]; simp
    rw [e]; exact ⟨_, by simp [binOp, Op.intCmp], .bool _⟩
  all_goals
    cases a with
    | negSucc m => simp [bits2] at h
    | ofNat m => cases b with
      | negSucc n => simp [bits2] at h
      | ofNat n =>
        simp only [bits2] at h
        cases hc : (Nat.blt m (lim k) && Nat.blt n (lim k)) with
        | false => rw [hc] at h; simp at h
        | true =>
          rw [hc] at h
          simp only [Bool.and_eq_true, Nat.blt_eq] at hc
          simp only [cond_true, mkI_eq, Option.some.injEq] at h
          subst h
          have hl := lim_bits k
          have hm := toNat_ofInt_small k m hc.1
          have hn := toNat_ofInt_small k n hc.2
          refine ⟨_, ?_, .int _ _⟩
          simp only [binOp, ne_eq, not_true, if_false, Op.intBits, Sem.run_pure]
          congr 2
          first
            | (rw [BitVec.toNat_and, hm, hn]; exact wrap_small k _ (Nat.lt_of_le_of_lt Nat.and_le_left hc.1))
            | (rw [BitVec.toNat_or, hm, hn]; exact wrap_small k _ (by rw [hl] at hc ⊢; exact Nat.or_lt_two_pow hc.1 hc.2))
            | (rw [BitVec.toNat_xor, hm, hn]; exact wrap_small k _ (by rw [hl] at hc ⊢; exact Nat.xor_lt_two_pow hc.1 hc.2))
end
end Go.Ev
