/- The plain evaluator is sound: operations that only reckon, one by one. -/
import Derived.Test.YtigfokpgohaniaaGreatDoorEvS2
import Derived.Laws.Slices
import Derived.Laws.Strings
namespace Go.Ev
open Go

section
variable {P : Program}
variable {D : Nat → Prop} {ρ : Nat → Nat} {sh : Nat → Option (TypeId × Nat)} {w : World} {B nt : Nat}

/-- The temporaries. -/
structure ER (nt : Nat) (D : Nat → Prop) (ρ : Nat → Nat) (sh : Nat → Option (TypeId × Nat)) (E : Tr AV) (a : Act) : Prop where
  size : a.tmps.size = nt
  get : ∀ t v, E.get t = some v → ∃ v', a.tmps[t]? = some v' ∧ VR D ρ sh v v'

def Low (B : Nat) (D : Nat → Prop) (ρ : Nat → Nat) : Prop := ∀ b, b < B → D b ∧ ρ b = b

theorem opnd_ok (hl : Low B D ρ) {E : Tr AV} {a : Act} (he : ER nt D ρ sh E a) {x : Operand} {v : AV} (h : (opnd B x).f E = some v) : VR D ρ sh v (a.eval x) := by
  cases x with
  | tmp t =>
    obtain ⟨v', h1, h2⟩ := he.get t v h
    simpa [Act.eval, h1] using h2
  | const c =>
    simp only [opnd] at h
    split at h
    · rename_i u hu
      simp only [Option.some.injEq] at h; subst h
      exact ofVal_VR hu
    · cases h
  | global g =>
    simp only [opnd] at h
    cases hg : Nat.blt g B
    · rw [hg] at h; simp at h
    · rw [hg] at h
      simp only [cond_true, Option.some.injEq] at h; subst h
      have := hl g (by rw [Nat.blt_eq] at hg; exact hg)
      have hv := VR.ptr (ρ := ρ) (sh := sh) g 0 this.1
      rw [this.2] at hv
      exact hv
  | func f =>
    simp only [opnd, Option.some.injEq] at h; subst h
    exact .func _ _ _ _ _ .nil .nil

theorem opnds_ok (hl : Low B D ρ) {E : Tr AV} {a : Act} (he : ER nt D ρ sh E a) : ∀ {l : List Operand} {r : List AV}, (opnds B l).f E = some r → VRL D ρ sh r (l.map a.eval)
  | [], r, h => by
    simp only [opnds, Option.some.injEq] at h; subst h; exact .nil
  | x :: l, r, h => by
    have h' : bindO ((opnd B x).f E) (fun v => bindO ((opnds B l).f E) fun r => some (v :: r)) = some r := h
    obtain ⟨v, hv, h2⟩ := bindO_some_iff.1 h'
    obtain ⟨s, hs, h3⟩ := bindO_some_iff.1 h2
    simp only [Option.some.injEq] at h3; subst h3
    exact .cons _ _ _ _ (opnd_ok hl he hv) (opnds_ok hl he hs)

theorem opnds_arr (hl : Low B D ρ) {E : Tr AV} {a : Act} (he : ER nt D ρ sh E a) {l : Array Operand} {r : List AV} (h : (opnds B l.toList).f E = some r) : VRL D ρ sh r (l.map a.eval).toList := by
  rw [Array.toList_map]; exact opnds_ok hl he h

inductive PRL (D : Nat → Prop) (ρ : Nat → Nat) (sh : Nat → Option (TypeId × Nat)) : List (Nat × AV) → List (Nat × Value) → Prop where
  | nil : PRL D ρ sh [] []
  | cons (i : Nat) (v : AV) (v' : Value) (l : List (Nat × AV)) (l' : List (Nat × Value)) : VR D ρ sh v v' → PRL D ρ sh l l' → PRL D ρ sh ((i, v) :: l) ((i, v') :: l')

theorem opndP_ok (hl : Low B D ρ) {E : Tr AV} {a : Act} (he : ER nt D ρ sh E a) : ∀ {l : List (Nat × Operand)} {r : List (Nat × AV)}, (opndP B l).f E = some r →
    PRL D ρ sh r (l.map fun x => (x.1, a.eval x.2))
  | [], r, h => by
    simp only [opndP, Option.some.injEq] at h; subst h; exact .nil
  | x :: l, r, h => by
    have h' : bindO ((opnd B x.2).f E) (fun v => bindO ((opndP B l).f E) fun r => some ((x.1, v) :: r)) = some r := h
    obtain ⟨v, hv, h2⟩ := bindO_some_iff.1 h'
    obtain ⟨s, hs, h3⟩ := bindO_some_iff.1 h2
    simp only [Option.some.injEq] at h3; subst h3
    exact .cons _ _ _ _ _ (opnd_ok hl he hv) (opndP_ok hl he hs)

theorem optB_ok (hl : Low B D ρ) {E : Tr AV} {a : Act} (he : ER nt D ρ sh E a) {x : Option Operand} {v : Option AV} (h : (optB B x).f E = some v) :
    (v = none ∧ x = none) ∨ ∃ u y, v = some u ∧ x = some y ∧ VR D ρ sh u (a.eval y) := by
  cases x with
  | none => simp only [optB, Option.some.injEq] at h; exact .inl ⟨h.symm, rfl⟩
  | some y =>
    obtain ⟨u, hu, h2⟩ := bindO_some_iff.1 h
    simp only [Option.some.injEq] at h2
    exact .inr ⟨u, y, h2.symm, rfl, opnd_ok hl he hu⟩

theorem onInt_iff {β : Type} {v : AV} {k : IntKind → Int → Option β} {r : β} (h : onInt v k = some r) : ∃ kd n, v = .int kd n ∧ k kd n = some r := by
  cases v <;> first | exact ⟨_, _, rfl, h⟩ | (simp [onInt] at h; done)
theorem onPtr_iff {β : Type} {v : AV} {k : Nat → Nat → Option β} {r : β} (h : onPtr v k = some r) : ∃ b o, v = .ptr (some (b, o)) ∧ k b o = some r := by
  unfold onPtr at h
  split at h
  · exact ⟨_, _, rfl, h⟩
  · cases h

/-! Shifts, comparisons, sums. -/
theorem shlV_ok {t : TypeId} {k yk : IntKind} {x y : Int} {v : AV} (h : shiftI shlV k x y = some v) : Yld P D ρ sh w (binOp .shl t (.int k x) (.int yk y)) v := by
  cases y with
  | negSucc n => simp [shiftI] at h
  | ofNat m =>
    simp only [shiftI, shlV, wrI_eq, mulI_eq, Option.some.injEq] at h; subst h
    refine ⟨_, ?_, .int _ _⟩
    have h0 : ¬ (Int.ofNat m < 0) := by simp
    simp only [binOp, Op.shift, if_neg h0]
    rfl
theorem shrV_ok {t : TypeId} {k yk : IntKind} {x y : Int} {v : AV} (h : shiftI shrV k x y = some v) : Yld P D ρ sh w (binOp .shr t (.int k x) (.int yk y)) v := by
  cases y with
  | negSucc n => simp [shiftI] at h
  | ofNat m =>
    simp only [shiftI, shrV, mkI_eq, Option.some.injEq] at h; subst h
    refine ⟨_, ?_, .int _ _⟩
    have h0 : ¬ (Int.ofNat m < 0) := by simp
    simp only [binOp, Op.shift, if_neg h0, Sem.run_pure]
    congr 2
    generalize hn : min (Int.ofNat m).toNat k.bits = n
    have hn' : Nat.min m k.bits = n := hn
    rw [hn']
    cases x with
    | ofNat a =>
      show Int.fdiv (Int.ofNat a) (2 ^ n) = Int.ofNat (a >>> n)
      rw [Nat.shiftRight_eq_div_pow]
      have : (2 : Int) ^ n = ((2 ^ n : Nat) : Int) := by simp
      rw [this]
      cases a with
      | zero => simp
      | succ a => rfl
    | negSucc a =>
      show Int.fdiv (Int.negSucc a) (2 ^ n) = Int.negSucc (a >>> n)
      rw [Nat.shiftRight_eq_div_pow]
      have : (2 : Int) ^ n = ((2 ^ n : Nat) : Int) := by simp
      rw [this]
      have hp : 0 < 2 ^ n := Nat.two_pow_pos n
      obtain ⟨q, hq⟩ : ∃ q, 2 ^ n = q + 1 := ⟨2 ^ n - 1, by omega⟩
      rw [hq]; rfl

theorem isConst_spec {x : Operand} (h : isConst x = true) : ∃ v, x = .const v := by
  cases x <;> first | exact ⟨_, rfl⟩ | (simp [isConst] at h; done)

theorem eqGuard_int {op : BinOp} {t : TypeId} {x y : Operand} {a b : Value} (h : ∀ u v, ¬ (a = .nilIface ∧ b = .nilIface) ∧ ¬ (a = .agg u ∧ b = .agg v)) :
    (eqGuard op t x y a b).run P w = .ok () w := by
  have key : ∀ q : Sem Unit, (eqGuard .eql t x y a b).run P w = .ok () w := fun _ => by
    cases a <;> cases b <;> first
      | rfl
      | exact absurd ⟨rfl, rfl⟩ (h #[] #[]).1
      | exact absurd ⟨rfl, rfl⟩ (h _ _).2
  cases op <;> first
    | rfl
    | exact key (pure ())

theorem eqGuard_nil {op : BinOp} {t : TypeId} {x y : Operand} (h : (isConst x || isConst y) = true) : (eqGuard op t x y .nilIface .nilIface).run P w = .ok () w := by
  cases op <;> first
    | rfl
    | (cases x <;> cases y <;> first | rfl | (simp [isConst] at h; done))

theorem binOp_eqGuard {op : BinOp} {t : TypeId} {x y : Operand} {a b : Value} {v : AV} (hg : (eqGuard op t x y a b).run P w = .ok () w) (h : Yld P D ρ sh w (binOp op t a b) v) :
    Yld P D ρ sh w (do eqGuard op t x y a b; binOp op t a b) v := by
  obtain ⟨v', h1, h2⟩ := h
  exact ⟨v', by simp only [Sem.run_bind, hg, Result.andThen_ok, h1], h2⟩

theorem eqE_opq (d : Nat) (t : TypeId) (a : Value) (y : AV) : eqE P d t (.opq a) y = none := by
  cases d with
  | zero => rfl
  | succ d =>
    simp only [eqE]
    split <;> first | rfl | (split <;> rfl)

theorem eqE_opq' (d : Nat) (t : TypeId) (a : Value) (y : AV) : eqE P d t y (.opq a) = none := by
  cases d with
  | zero => rfl
  | succ d =>
    simp only [eqE]
    split <;> first | rfl | (split <;> first | rfl | (exfalso; simp_all; done) | (simp_all; done))

/-- Neither numbers, nor texts. -/
theorem binOp_eql {t : TypeId} {x y : AV} {a b : Value} {r : Bool} (hx : VR D ρ sh x a) (hy : VR D ρ sh y b) (h : eqE P Op.maxDepth t x y = some r)
    (hn : ∀ k n, x ≠ .int k n) (hs : ∀ s, x ≠ .str s) :
    (binOp .eql t a b).run P w = .ok (.bool r) w ∧ (binOp .neq t a b).run P w = .ok (.bool !r) w := by
  have he : (Op.equal t a b).run P w = .ok r w := eqE_ok _ t x y a b r h hx hy
  have key : binOp .eql t a b = (do pure (.bool (← Op.equal t a b))) ∧ binOp .neq t a b = (do pure (.bool (!(← Op.equal t a b)))) := by
    cases hx <;> first
      | exact absurd rfl (hn _ _)
      | exact absurd rfl (hs _)
      | (constructor <;> rfl)
      | (rw [eqE_opq] at h; cases h; done)
  rw [key.1, key.2]
  simp [he]

theorem binGen_ok {op : BinOp} {t : TypeId} {x y : Operand} {a b : AV} {a' b' : Value} {v : AV} (hx : VR D ρ sh a a') (hy : VR D ρ sh b b')
    (hs : op ≠ .shl) (hs' : op ≠ .shr) (h : binGen P op t (isConst x || isConst y) a b = some v) :
    Yld P D ρ sh w (do eqGuard op t x y a' b'; binOp op t a' b') v := by
  have gen : ∀ (hn : ∀ k n, a ≠ .int k n) (hss : ∀ s, a ≠ .str s), eqGen P op t (isConst x || isConst y) a b = some v → Yld P D ρ sh w (do eqGuard op t x y a' b'; binOp op t a' b') v := by
    intro hn hss h
    have plain : ∀ r, eqE P Op.maxDepth t a b = some r → (eqGuard op t x y a' b').run P w = .ok () w → (op = .eql → mkB r = some v) → (op = .neq → mkB (!r) = some v) → (op = .eql ∨ op = .neq) →
        Yld P D ρ sh w (do eqGuard op t x y a' b'; binOp op t a' b') v := by
      intro r hr hg h1 h2 h3
      refine binOp_eqGuard hg ?_
      have hb := binOp_eql (w := w) hx hy hr hn hss
      rcases h3 with rfl | rfl
      · have := h1 rfl; rw [mkB_eq] at this; simp only [Option.some.injEq] at this; subst this; exact ⟨_, hb.1, .bool _⟩
      · have := h2 rfl; rw [mkB_eq] at this; simp only [Option.some.injEq] at this; subst this; exact ⟨_, hb.2, .bool _⟩
    have guardN : ∀ r, eqE P Op.maxDepth t a b = some r → ¬ (a = .nilIface ∧ b = .nilIface) → (∀ u v, ¬ (a = .agg u ∧ b = .agg v)) → (eqGuard op t x y a' b').run P w = .ok () w := by
      intro r hr h1 h2
      refine eqGuard_int fun u v => ⟨fun e => ?_, fun e => ?_⟩
      · obtain ⟨rfl, rfl⟩ := e
        cases hx <;> first
          | (cases hy <;> first | exact h1 ⟨rfl, rfl⟩ | (rw [eqE_opq'] at hr; cases hr; done))
          | (rw [eqE_opq] at hr; cases hr; done)
      · obtain ⟨rfl, rfl⟩ := e
        cases hx <;> first
          | (cases hy <;> first | exact h2 _ _ ⟨rfl, rfl⟩ | (rw [eqE_opq'] at hr; cases hr; done))
          | (rw [eqE_opq] at hr; cases hr; done)
    have aggs : ∀ u v', a = .agg u → b = .agg v' → P.eqGuardType P.depth t = false → (eqGuard op t x y a' b').run P w = .ok () w := by
      intro u v' h1 h2 h3
      subst h1; subst h2
      cases hx; cases hy
      exact run_eqGuard_agg w op t x y _ _ h3
    cases op <;> simp only [eqGen, reduceCtorEq] at h
    all_goals
      split at h
      · cases hc : (isConst x || isConst y)
        · rw [hc] at h; simp at h
        · rw [hc] at h
          simp only [cond_true] at h
          obtain ⟨r, hr, h2⟩ := bindO_some_iff.1 h
          refine plain r hr ?_ (fun e => by first | exact h2 | cases e) (fun e => by first | exact h2 | cases e) (by first | exact .inl rfl | exact .inr rfl)
          cases hx; cases hy
          exact eqGuard_nil hc
      · cases hc : P.eqGuardType P.depth t
        · rw [hc] at h
          simp only [cond_false] at h
          obtain ⟨r, hr, h2⟩ := bindO_some_iff.1 h
          exact plain r hr (aggs _ _ rfl rfl hc) (fun e => by first | exact h2 | cases e) (fun e => by first | exact h2 | cases e) (by first | exact .inl rfl | exact .inr rfl)
        · rw [hc] at h; simp at h
      · rename_i h1 h2
        obtain ⟨r, hr, h3⟩ := bindO_some_iff.1 h
        exact plain r hr (guardN r hr (fun e => h1 e.1 e.2) (fun u v e => h2 u v e.1 e.2)) (fun e => by first | exact h3 | cases e) (fun e => by first | exact h3 | cases e) (by first | exact .inl rfl | exact .inr rfl)
  unfold binGen at h
  cases hx <;> simp only [onIntS] at h
  case int k n =>
    obtain ⟨k', n', rfl, h2⟩ := onInt_iff h
    cases hy
    rw [sameK_eq] at h2
    by_cases hk : k = k'
    · subst hk
      simp only [decide_true, cond_true] at h2
      exact binOp_eqGuard (eqGuard_int (by simp)) (run_binOp_int op t k n n' v h2 hs hs')
    · simp [hk] at h2
  case str s =>
    cases hy <;> simp only [reduceCtorEq] at h
    exact binOp_eqGuard (eqGuard_int (by simp)) (strBin_ok h)
  all_goals exact gen (by simp) (by simp) h

theorem binE_ok {op : BinOp} {t : TypeId} {x y : Operand} {a b : AV} {a' b' : Value} {v : AV} (hx : VR D ρ sh a a') (hy : VR D ρ sh b b')
    (h : binE P op t (isConst x || isConst y) a b = some v) : Yld P D ρ sh w (do eqGuard op t x y a' b'; binOp op t a' b') v := by
  by_cases h1 : op = .shl
  · subst h1
    simp only [binE] at h
    obtain ⟨k, n, e1, h4⟩ := onInt_iff h
    obtain ⟨k', n', e2, h5⟩ := onInt_iff h4
    subst e1; subst e2
    cases hx; cases hy
    exact binOp_eqGuard (eqGuard_int (by simp)) (shlV_ok h5)
  · by_cases h2 : op = .shr
    · subst h2
      simp only [binE] at h
      obtain ⟨k, n, e1, h4⟩ := onInt_iff h
      obtain ⟨k', n', e2, h5⟩ := onInt_iff h4
      subst e1; subst e2
      cases hx; cases hy
      exact binOp_eqGuard (eqGuard_int (by simp)) (shrV_ok h5)
    · refine binGen_ok hx hy h1 h2 ?_
      cases op <;> first | exact h | exact absurd rfl h1 | exact absurd rfl h2
end
end Go.Ev
