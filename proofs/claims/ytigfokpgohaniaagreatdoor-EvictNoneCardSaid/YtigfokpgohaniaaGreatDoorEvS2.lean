/- The plain evaluator is sound: operations that only reckon. -/
import Derived.Test.YtigfokpgohaniaaGreatDoorEvS1
namespace Go.Ev
open Go

section
variable {P : Program}
variable {D : Nat → Prop} {ρ : Nat → Nat} {sh : Nat → Option (TypeId × Nat)} {w : World}

/-- What an operation yields without a touch on the world. -/
def Yld (P : Program) (D : Nat → Prop) (ρ : Nat → Nat) (sh : Nat → Option (TypeId × Nat)) (w : World) (s : Sem Value) (v : AV) : Prop :=
  ∃ v', s.run P w = .ok v' w ∧ VR D ρ sh v v'

theorem run_szO {t : TypeId} {n : Nat} (h : szO P t = some n) : (sizeOf t).run P w = .ok n w := by
  simp only [szO] at h
  obtain ⟨i, hi, rfl⟩ := Option.map_eq_some_iff.1 h
  simp [sizeOf, typeInfo, hi]
theorem run_info {t : TypeId} {i : TypeInfo} (h : P.info? t = some i) : (typeInfo t).run P w = .ok i w := by
  simp [typeInfo, h]
theorem run_aggT {t : TypeId} {b : Bool} (h : aggT P t = some b) : (isAgg t).run P w = .ok b w := by
  unfold aggT at h
  split at h <;> rename_i hu <;> simp only [Option.some.injEq, reduceCtorEq] at h <;> subst h
  · simp [isAgg, run_underlying hu]
  · simp [isAgg, run_underlying hu]
  · rename_i d h1 h2
    simp only [isAgg, Sem.run_bind, run_underlying hu, Result.andThen_ok]
    cases d <;> first | rfl | exact absurd hu (h1 _) | exact absurd hu (h2 _ _)
theorem run_zeroV {t : TypeId} {z : AV} (h : zeroV P t = some z) : ∃ z', (zeroValue t).run P w = .ok z' w ∧ VR D ρ sh z z' := by
  unfold zeroV at h
  split at h
  · rename_i i hi
    split at h
    · rename_i v hv
      exact ⟨v, by simp [zeroValue, typeInfo, hi, hv], ofVal_VR h⟩
    · cases h
  · cases h

theorem bindO_some_iff {α β : Type} {x : Option α} {k : α → Option β} {b : β} : bindO x k = some b ↔ ∃ a, x = some a ∧ k a = some b := bindO_eq x k b

theorem partE_ok {t : TypeId} {cs : List AV} {off : Nat} {v : AV} {cs' : Array Value} (hc : VRL D ρ sh cs cs'.toList) (h : partE P t cs off = some v) :
    Yld P D ρ sh w (part t cs' off) v := by
  unfold partE at h
  split at h
  · rename_i ha
    split at h
    · rename_i n hn
      simp only [takeK_eq, dropR_eq, Option.some.injEq] at h
      subst h
      refine ⟨.agg (cs'.extract off (off + n)), by simp [part, run_aggT ha, run_szO hn], .agg _ _ ?_⟩
      rw [Array.toList_extract]
      have := (hc.drop off).take n
      simpa using this
    · cases h
  · rename_i ha
    rw [nth_eq] at h
    obtain ⟨v', h1, h2⟩ := hc.get _ _ h
    refine ⟨v', ?_, h2⟩
    have : cs'[off]? = some v' := by rw [← Array.getElem?_toList]; exact h1
    simp [part, run_aggT ha, this]
  · cases h

/-! Texts. -/
theorem eqB_eq (a b : UInt8) : eqB a b = (a == b) := by
  rw [Bool.eq_iff_iff, eqB, Nat.beq_eq, beq_iff_eq]
  exact UInt8.toNat_inj
theorem eqS_eq : ∀ a b : List UInt8, eqS a b = (a == b)
  | [], [] => rfl
  | [], _ :: _ => rfl
  | _ :: _, [] => rfl
  | a :: x, b :: y => by
    simp only [eqS, eqB_eq]
    cases hab : (a == b) <;> simp [List.cons_beq_cons, hab, eqS_eq x y]
theorem ltS_eq : ∀ a b : List UInt8, ltS a b = Op.bytesLess a b
  | [], [] => rfl
  | _ :: _, [] => rfl
  | [], _ :: _ => rfl
  | a :: x, b :: y => by
    simp only [ltS, eqB_eq, Op.bytesLess]
    have h : Nat.blt a.toNat b.toNat = decide (a < b) := by rw [Bool.eq_iff_iff, Nat.blt_eq, decide_eq_true_eq]; exact UInt8.lt_iff_toNat_lt.symm
    rw [h]
    cases decide (a < b) <;> cases hab : (a == b) <;> simp [ltS_eq x y]

theorem mk_append (x y : List UInt8) : (⟨⟨x⟩⟩ : ByteArray) ++ ⟨⟨y⟩⟩ = ⟨⟨x ++ y⟩⟩ := by
  apply ByteArray.ext
  apply Array.ext'
  simp [ByteArray.data_append]

theorem strBin_ok {op : BinOp} {t : TypeId} {x y : List UInt8} {v : AV} (h : strBin op x y = some v) :
    Yld P D ρ sh w (binOp op t (.string ⟨⟨x⟩⟩) (.string ⟨⟨y⟩⟩)) v := by
  have hx : (⟨⟨x⟩⟩ : ByteArray).toList = x := ByteArray.toList_eq _
  have hy : (⟨⟨y⟩⟩ : ByteArray).toList = y := ByteArray.toList_eq _
  cases op <;> simp only [strBin, reduceCtorEq] at h
  case add =>
    simp only [catS, lenR_eq, appK_eq] at h
    cases hb : Nat.blt (x.length + y.length) 4611686018427387904
    · rw [hb] at h; simp at h
    · rw [hb] at h
      simp only [cond_true, Option.some.injEq] at h
      subst h
      rw [Nat.blt_eq] at hb
      refine ⟨.string ⟨⟨x ++ y⟩⟩, ?_, .str _⟩
      have hs : ¬ (((⟨⟨x⟩⟩ : ByteArray).size + (⟨⟨y⟩⟩ : ByteArray).size : Nat) : Int) > IntKind.i64.max := by
        have h1 : (⟨⟨x⟩⟩ : ByteArray).size = x.length := rfl
        have h2 : (⟨⟨y⟩⟩ : ByteArray).size = y.length := rfl
        rw [h1, h2]
        simp only [IntKind.max, IntKind.signed, IntKind.bits, if_true]
        omega
      simp only [binOp, Op.stringOp]
      rw [if_neg hs, mk_append]; rfl
  all_goals
    simp only [eqS_eq, ltS_eq, mkB_eq, Option.some.injEq] at h
    subst h
    refine ⟨_, ?_, .bool _⟩
    simp [binOp, Op.stringOp, hx, hy]

/-! Equality. -/
theorem eqFs_ok {d : Nat} {xs' ys' : Array Value} {xs ys : List AV} (hx : VRL D ρ sh xs xs'.toList) (hy : VRL D ρ sh ys ys'.toList)
    {eq : TypeId → AV → AV → Option Bool}
    (heq : ∀ t x y x' y' r, eq t x y = some r → VR D ρ sh x x' → VR D ρ sh y y' → (Op.equalIn d t x' y').run P w = .ok r w) :
    ∀ (fs : List Field) (r : Bool), eqFs P eq fs xs ys = some r → (Op.eqFields d xs' ys' fs).run P w = .ok r w
  | [], r, h => by simp only [eqFs, Option.some.injEq] at h; subst h; rfl
  | f :: fs, r, h => by
    simp only [eqFs] at h
    by_cases hn : f.name = "_"
    · simp only [hn, decide_true] at h
      simp only [Op.eqFields, hn, ne_eq, not_true, if_false]
      exact eqFs_ok hx hy heq fs r h
    · simp only [hn, decide_false] at h
      split at h
      · rename_i a b ha hb
        obtain ⟨a', ha1, ha2⟩ := partE_ok (w := w) hx ha
        obtain ⟨b', hb1, hb2⟩ := partE_ok (w := w) hy hb
        simp only [Op.eqFields, ne_eq, hn, not_false_eq_true, if_true, Sem.run_bind, ha1, hb1, Result.andThen_ok]
        split at h
        · rename_i he
          rw [heq _ _ _ _ _ _ he ha2 hb2]
          simp only [Result.andThen_ok, Bool.not_true, Bool.false_eq_true, if_false]
          exact eqFs_ok hx hy heq fs r h
        · rename_i he
          simp only [Option.some.injEq] at h; subst h
          rw [heq _ _ _ _ _ _ he ha2 hb2]
          simp
        · cases h
      · cases h

set_option maxHeartbeats 2000000 in
theorem eqE_ok : ∀ (d : Nat) (t : TypeId) (x y : AV) (x' y' : Value) (r : Bool), eqE P d t x y = some r → VR D ρ sh x x' → VR D ρ sh y y' →
    (Op.equalIn d t x' y').run P w = .ok r w
  | 0, _, _, _, _, _, _, h, _, _ => by simp [eqE] at h
  | d + 1, t, x, y, x', y', r, h, hx, hy => by
    simp only [eqE] at h
    split at h
    · rename_i hu
      split at h
      · cases hx; cases hy; simp only [Option.some.injEq] at h; subst h; simp [Op.equalIn, run_underlying hu]
      · cases h
    · rename_i hu
      split at h
      · cases hx; cases hy
        split at h
        · rename_i hk
          simp only [Option.some.injEq] at h; subst h; simp [Op.equalIn, run_underlying hu, hk, eqI_eq]
        · cases h
      · cases h
    · rename_i hu
      split at h
      · cases hx; cases hy; simp only [Option.some.injEq] at h; subst h
        simp only [Op.equalIn, Sem.run_bind, run_underlying hu, Result.andThen_ok, Sem.run_pure, eqS_eq]
        rw [beq_toListBytes, ByteArray.toList_eq, ByteArray.toList_eq]
      · cases h
    · rename_i e hu
      split at h
      · cases hx; cases hy; simp only [Option.some.injEq] at h; subst h; simp [Op.equalIn, run_underlying hu]
      · cases hx; cases hy; simp only [Option.some.injEq] at h; subst h; simp [Op.equalIn, run_underlying hu]
      · cases hx; cases hy; simp only [Option.some.injEq] at h; subst h; simp [Op.equalIn, run_underlying hu]
      · rename_i a i b j
        split at h
        · rename_i n hn
          cases hab : Nat.beq a b
          · rw [hab] at h; simp at h
          · rw [hab] at h
            have hab' : a = b := Nat.eq_of_beq_eq_true hab
            subst hab'
            simp only [cond_true, Option.some.injEq] at h; subst h
            cases hx; cases hy
            simp only [Op.equalIn, Sem.run_bind, run_underlying hu, Result.andThen_ok, run_szO hn, sameAddr]
            simp
            rw [Bool.eq_iff_iff]; simp
        · cases h
      · cases h
    · rename_i hu
      split at h
      · cases hx; cases hy; simp only [Option.some.injEq] at h; subst h; simp [Op.equalIn, run_underlying hu]
      · cases hx; cases hy; simp only [Option.some.injEq] at h; subst h; simp [Op.equalIn, run_underlying hu]
      · cases hx; cases hy; simp only [Option.some.injEq] at h; subst h; simp [Op.equalIn, run_underlying hu]
      · cases h
    · rename_i fs hu
      split at h
      · cases hb : P.stoodInHeld t
        · rw [hb] at h
          simp only [cond_false] at h
          cases hx with | agg _ xs' hx => cases hy with | agg _ ys' hy =>
          have hf : P.underlying t = some (.struct (P.fieldsOf t)) := by simp [Program.fieldsOf, hu]
          have hff : P.fieldsOf t = fs := by simp [Program.fieldsOf, hu]
          rw [run_equalIn_struct w d t xs' ys' hf hb, hff]
          exact eqFs_ok hx hy (fun t x y x' y' r h h1 h2 => eqE_ok d t x y x' y' r h h1 h2) fs.toList r h
        · rw [hb] at h; simp at h
      · cases h
    · rename_i hu
      split at h
      · cases hx; cases hy; simp only [Option.some.injEq] at h; subst h; simp [Op.equalIn, run_underlying hu]
      · cases hx; cases hy <;> (simp only [Option.some.injEq] at h; subst h; simp [Op.equalIn, run_underlying hu])
      · cases hx <;> cases hy <;> (simp only [Option.some.injEq] at h; subst h; simp [Op.equalIn, run_underlying hu])
      · cases h
    · rename_i hu
      split at h
      · cases hx; cases hy; simp only [Option.some.injEq] at h; subst h; simp [Op.equalIn, run_underlying hu]
      · cases hx; cases hy; simp only [Option.some.injEq] at h; subst h; simp [Op.equalIn, run_underlying hu]
      · cases hx; cases hy; simp only [Option.some.injEq] at h; subst h; simp [Op.equalIn, run_underlying hu]
      · cases h
    · rename_i hu
      split at h
      · cases hx; cases hy; simp only [Option.some.injEq] at h; subst h; simp [Op.equalIn, run_underlying hu]
      · cases hx; cases hy; simp only [Option.some.injEq] at h; subst h; simp [Op.equalIn, run_underlying hu]
      · cases hx; cases hy; simp only [Option.some.injEq] at h; subst h; simp [Op.equalIn, run_underlying hu]
      · cases h
    · cases h
end
end Go.Ev
