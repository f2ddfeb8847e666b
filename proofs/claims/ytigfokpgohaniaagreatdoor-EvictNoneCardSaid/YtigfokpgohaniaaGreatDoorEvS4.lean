/- The plain evaluator is sound: every operation that only reckons. -/
import Derived.Test.YtigfokpgohaniaaGreatDoorEvS3
namespace Go.Ev
open Go

section
variable {P : Program}
variable {D : Nat → Prop} {ρ : Nat → Nat} {sh : Nat → Option (TypeId × Nat)} {w : World} {B nt : Nat}

theorem unE_ok {op : UnOp} {a : AV} {a' : Value} {v : AV} (hx : VR D ρ sh a a') (h : unE op a = some v) : Yld P D ρ sh w (Op.unary op a') v := by
  cases op <;> simp only [unE, reduceCtorEq] at h
  case neg =>
    obtain ⟨k, n, e, h2⟩ := onInt_iff h
    subst e
    cases hx
    simp only [wrI_eq, subI_eq, Option.some.injEq] at h2; subst h2
    exact ⟨_, by simp [Op.unary, Op.intArith], .int _ _⟩
  case xor =>
    obtain ⟨k, n, e, h2⟩ := onInt_iff h
    subst e
    cases hx
    cases hu : unsigned k
    · rw [hu] at h2; simp at h2
    · rw [hu] at h2
      simp only [cond_true] at h2
      have hs : k.signed = false := by cases k <;> first | rfl | (simp [unsigned] at hu; done)
      have hm : k.max = .ofNat (lim k - 1) := by cases k <;> first | rfl | (simp [unsigned] at hu; done)
      obtain ⟨v', h3, h4⟩ := run_binOp_int (P := P) (w := w) (D := D) (ρ := ρ) (sh := sh) .xor 0 k (.ofNat (lim k - 1)) n v h2 (by simp) (by simp)
      refine ⟨v', ?_, h4⟩
      rw [← h3]
      simp [Op.unary, hs, hm, binOp]
  case not =>
    split at h
    · cases hx
      simp only [mkB_eq, Option.some.injEq] at h; subst h
      exact ⟨_, by simp [Op.unary], .bool _⟩
    · cases h

theorem convE_ok {src dst : TypeId} {a : AV} {a' : Value} {v : AV} (hx : VR D ρ sh a a') (h : (convE P src dst).f a = some v) : Yld P D ρ sh w (convert src dst a') v := by
  unfold convE at h
  split at h
  · rename_i d k hs hd
    obtain ⟨k', n, e, h2⟩ := onInt_iff h
    subst e; cases hx
    simp only [wrI_eq, Option.some.injEq] at h2; subst h2
    exact ⟨_, by simp [convert, run_underlying hs, run_underlying hd, Conv.intToInt], .int _ _⟩
  · rename_i d hs hd
    dsimp only at h
    split at h
    · simp only [Option.some.injEq] at h; subst h
      cases hx
      refine ⟨_, ?_, .str _⟩
      simp only [convert, Sem.run_bind, run_underlying hs, run_underlying hd, Result.andThen_ok]
      rfl
    · cases h
  · cases h

theorem add_zero' (a : Addr) (n : Nat) (h : a.spot = none) : a.add n = ⟨a.block, a.off + n, none⟩ := by
  unfold Addr.add
  split
  · rename_i hn; subst hn; cases a; simp_all
  · rfl

theorem fieldAddrE_ok {s : TypeId} {f : Nat} {a : AV} {a' : Value} {v : AV} (hx : VR D ρ sh a a') (h : (fieldAddrE P s f).f a = some v) :
    Yld P D ρ sh w (Instr.fieldAt s a' f) v := by
  unfold fieldAddrE at h
  split at h
  · rename_i fs hu
    split at h
    · rename_i fd hf
      split at h
      · rename_i n hn
        rw [natK_eq] at h
        obtain ⟨b, o, e, h2⟩ := onPtr_iff h
        subst e
        rw [natK_eq] at h2
        simp only [Option.some.injEq] at h2; subst h2
        cases hx with | ptr _ _ hd =>
        refine ⟨.pointer (some ⟨ρ b, o + fd.offset, none⟩), ?_, .ptr _ _ hd⟩
        simp only [Instr.fieldAt, Sem.run_bind, run_underlying hu, Result.andThen_ok, hf, Instr.sureAddr, Sem.run_pure, fieldPlace, run_szO hn, Sem.run_ite]
        simp [add_zero']
      · cases h
    · cases h
  · cases h

theorem fieldE_ok {t : TypeId} {f : Nat} {a : AV} {a' : Value} {v : AV} (hx : VR D ρ sh a a') (h : fieldE P t a f = some v) :
    Yld P D ρ sh w (Instr.field t a' f) v := by
  unfold fieldE at h
  split at h
  · rename_i fs hu
    split at h
    · rename_i fd cs hf
      cases hx with | agg _ cs' hc =>
      obtain ⟨v', h1, h2⟩ := partE_ok (w := w) hc h
      refine ⟨v', ?_, h2⟩
      simp only [Instr.field, Sem.run_bind, run_underlying hu, Result.andThen_ok, hf, asAgg, Sem.run_pure, h1]
    · cases h
  · cases h

theorem inE_iff {i : Int} {len n : Nat} (h : inE i len = some n) : i = .ofNat n ∧ n < len := by
  cases i with
  | ofNat m =>
    simp only [inE] at h
    cases hb : Nat.blt m len
    · rw [hb] at h; simp at h
    · rw [hb] at h
      simp only [cond_true, Option.some.injEq] at h; subst h
      exact ⟨rfl, by rw [Nat.blt_eq] at hb; exact hb⟩
  | negSucc m => simp [inE] at h

theorem indexAddrE_ok {t : TypeId} {a ix : AV} {a' ix' : Value} {v : AV} (hx : VR D ρ sh a a') (hi : VR D ρ sh ix ix') (h : (indexAddrE P t).f a ix = some v) :
    Yld P D ρ sh w (Instr.indexAt t a' ix') v := by
  unfold indexAddrE at h
  split at h
  · rename_i len e hu
    split at h
    · rename_i n hn
      rw [natK_eq] at h
      obtain ⟨k, i, e1, h2⟩ := onInt_iff h
      obtain ⟨b, o, e2, h3⟩ := onPtr_iff h2
      obtain ⟨j, hj, h4⟩ := bindO_some_iff.1 h3
      rw [natK_eq] at h4
      simp only [Option.some.injEq] at h4
      obtain ⟨rfl, hlt⟩ := inE_iff hj
      subst e1; subst e2; subst h4
      cases hi
      cases hx with | ptr _ _ hd =>
      refine ⟨.pointer (some ⟨ρ b, o + j * n, none⟩), ?_, .ptr _ _ hd⟩
      simp only [Instr.indexAt, asIntOf, Sem.run_bind, Sem.run_pure, Result.andThen_ok, run_underlying hu, Instr.sureAddr]
      have h0 : (0 : Int) ≤ Int.ofNat j ∧ Int.ofNat j < (len : Int) := ⟨Int.natCast_nonneg j, Int.ofNat_lt.2 hlt⟩
      simp only [if_pos h0, Sem.run_bind, run_szO hn, Result.andThen_ok, Sem.run_pure]
      simp [add_zero']
    · cases h
  · rename_i e hu
    split at h
    · rename_i n hn
      rw [natK_eq] at h
      obtain ⟨k, i, e1, h2⟩ := onInt_iff h
      subst e1
      split at h2
      · rename_i b o len c
        obtain ⟨j, hj, h4⟩ := bindO_some_iff.1 h2
        rw [natK_eq] at h4
        simp only [Option.some.injEq] at h4
        obtain ⟨rfl, hlt⟩ := inE_iff hj
        subst h4
        cases hi
        have h0 : (0 : Int) ≤ Int.ofNat j ∧ Int.ofNat j < (len : Int) := ⟨Int.natCast_nonneg j, Int.ofNat_lt.2 hlt⟩
        cases hx with
        | sliceAt _ _ _ c hd hc =>
          refine ⟨.pointer (some ⟨ρ b, o + j * n, none⟩), ?_, .ptr _ _ hd⟩
          simp only [Instr.indexAt, asIntOf, Sem.run_bind, Sem.run_pure, Result.andThen_ok, run_underlying hu, Sem.run_ite, if_pos h0, run_szO hn]
          simp [add_zero']
        | slice _ _ _ c s hd hc hf =>
          refine ⟨.pointer (some ⟨ρ b, o + j * n, none⟩), ?_, .ptr _ _ hd⟩
          simp only [Instr.indexAt, asIntOf, Sem.run_bind, Sem.run_pure, Result.andThen_ok, run_underlying hu, Sem.run_ite, if_pos h0, run_szO hn]
          simp [add_zero']
        | sliceEnd _ _ _ _ => omega
      · cases h2
    · cases h
  · cases h

theorem indexE_ok {t : TypeId} {a ix : AV} {a' ix' : Value} {v : AV} (hx : VR D ρ sh a a') (hi : VR D ρ sh ix ix') (h : (indexE P t).f a ix = some v) :
    Yld P D ρ sh w (Instr.index t a' ix') v := by
  unfold indexE at h
  split at h
  · rename_i len e hu
    split at h
    · rename_i n hn
      rw [natK_eq] at h
      obtain ⟨k, i, e1, h2⟩ := onInt_iff h
      subst e1
      split at h2
      · rename_i cs
        obtain ⟨j, hj, h4⟩ := bindO_some_iff.1 h2
        obtain ⟨rfl, hlt⟩ := inE_iff hj
        cases hi
        cases hx with | agg _ cs' hc =>
        obtain ⟨v', h5, h6⟩ := partE_ok (w := w) hc h4
        refine ⟨v', ?_, h6⟩
        have h0 : (0 : Int) ≤ Int.ofNat j ∧ Int.ofNat j < (len : Int) := ⟨Int.natCast_nonneg j, Int.ofNat_lt.2 hlt⟩
        simp only [Instr.index, asIntOf, Sem.run_bind, Sem.run_pure, Result.andThen_ok, run_underlying hu, Sem.run_ite, if_pos h0, run_szO hn]
        exact h5
      · cases h2
    · cases h
  · rename_i hu
    obtain ⟨k, i, e1, h2⟩ := onInt_iff h
    subst e1
    split at h2
    · rename_i s
      cases hx; cases hi
      cases i with
      | negSucc m => simp [byteAt] at h2
      | ofNat m =>
        obtain ⟨u, hu1, h3⟩ := bindO_some_iff.1 h2
        rw [nth_eq] at hu1
        rw [mkI_eq] at h3
        simp only [Option.some.injEq] at h3; subst h3
        refine ⟨.int .u8 (.ofNat u.toNat), ?_, .int _ _⟩
        have hsz : m < (⟨⟨s⟩⟩ : ByteArray).size := (List.getElem?_eq_some_iff.1 hu1).1
        have hg : (⟨⟨s⟩⟩ : ByteArray)[m]? = some u := by
          obtain ⟨h5, h6⟩ := List.getElem?_eq_some_iff.1 hu1
          have : (⟨⟨s⟩⟩ : ByteArray)[m] = u := h6
          rw [← this]
          exact getElem?_pos (⟨⟨s⟩⟩ : ByteArray) m hsz
        simp only [Instr.index, asIntOf, Sem.run_bind, Sem.run_pure, Result.andThen_ok, run_underlying hu]
        have h0 : (0 : Int) ≤ Int.ofNat m := Int.natCast_nonneg m
        have e : (if 0 ≤ Int.ofNat m then (⟨⟨s⟩⟩ : ByteArray)[(Int.ofNat m).toNat]? else none) = some u := by rw [if_pos h0]; exact hg
        rw [e]; rfl
    · cases h2
  · cases h

theorem assertE_ok {xT asserted : TypeId} {ok : Bool} {a : AV} {a' : Value} {v : AV} (hx : VR D ρ sh a a') (h : assertE P asserted ok a = some v) :
    Yld P D ρ sh w (Instr.typeAssert a' xT asserted ok) v := by
  have fails : ∀ st dy m, failsE P asserted ok = some v → ∃ v', (if ok = true then do pure (.tuple #[← zeroValue asserted, .bool false]) else runtimePanic (.typeAssertion st dy asserted m) : Sem Value).run P w = .ok v' w ∧ VR D ρ sh v v' := by
    intro st dy m h
    unfold failsE at h
    cases ok
    · simp at h
    · simp only [cond_true] at h
      split at h
      · rename_i z hz
        obtain ⟨z', h1, h2⟩ := run_zeroV (D := D) (ρ := ρ) (sh := sh) (w := w) hz
        simp only [Option.some.injEq] at h; subst h
        exact ⟨.tuple #[z', .bool false], by simp [h1], .tup _ _ (.cons _ _ _ _ h2 (.one (.bool _)))⟩
      · cases h
  unfold assertE at h
  split at h
  · cases h
  · rename_i d hni hu
    have hd : ∀ (y : Value) (st dy : Option TypeId), True := fun _ _ _ => trivial
    split at h
    · cases hx
      obtain ⟨v', h1, h2⟩ := fails (some xT) none "" h
      refine ⟨v', ?_, h2⟩
      simp only [Instr.typeAssert, Sem.run_bind, run_underlying hu, Result.andThen_ok]
      cases d <;> first | exact h1 | exact absurd hu (hni _)
    · rename_i t u
      cases hx with | iface _ _ u' hu' =>
      cases ht : Nat.beq t asserted
      · rw [ht] at h
        simp only [cond_false] at h
        have hne : ¬ t = asserted := Nat.ne_of_beq_eq_false ht
        obtain ⟨v', h1, h2⟩ := fails (some xT) (some t) "" h
        refine ⟨v', ?_, h2⟩
        simp only [Instr.typeAssert, Sem.run_bind, run_underlying hu, Result.andThen_ok]
        cases d <;> first | (simp only [if_neg hne]; exact h1) | exact absurd hu (hni _)
      · rw [ht] at h
        have he : t = asserted := Nat.eq_of_beq_eq_true ht
        simp only [cond_true] at h
        cases ok
        · simp only [cond_false, Option.some.injEq] at h; subst h
          refine ⟨u', ?_, hu'⟩
          simp only [Instr.typeAssert, Sem.run_bind, run_underlying hu, Result.andThen_ok]
          cases d <;> first | (simp only [if_pos he]; rfl) | exact absurd hu (hni _)
        · simp only [cond_true, Option.some.injEq] at h; subst h
          refine ⟨.tuple #[u', .bool true], ?_, .tup _ _ (.cons _ _ _ _ hu' (.one (.bool _)))⟩
          simp only [Instr.typeAssert, Sem.run_bind, run_underlying hu, Result.andThen_ok]
          cases d <;> first | (simp only [if_pos he]; rfl) | exact absurd hu (hni _)
    · cases h
  · cases h
end
end Go.Ev
