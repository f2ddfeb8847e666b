/- The plain evaluator is sound: code, and calls. -/
import Derived.Test.YtigfokpgohaniaaGreatDoorEvSF
namespace Go.Ev
open Go

section
variable {P : Program} {B WB : Nat}
variable {D : Nat → Prop} {ρ : Nat → Nat} {w : World} {nt L : Nat} {H : AH} {call : FuncId → List AV → AH → Res}

def exitOf : Ex → Exit
  | .normal => .normal
  | .exit id => .exit id
  | .ret => .ret

theorem codeB_seq (a b : Code) : (codeB P B WB nt call L (.seq a b)) = ⟨fun E H => thenE ((codeB P B WB nt call L a).f E H) (codeB P B WB nt call L b).f⟩ := rfl
theorem codeB_cond (c : Operand) (a b : Code) : (codeB P B WB nt call L (.cond c a b)) = ⟨fun E H => bindO ((opnd B c).f E) fun v => condE v ((codeB P B WB nt call L a).f E H) ((codeB P B WB nt call L b).f E H)⟩ := rfl
theorem codeB_block (id : Nat) (b : Code) : (codeB P B WB nt call L (.block id b)) = ⟨fun E H => blockE id ((codeB P B WB nt call L b).f E H)⟩ := rfl
theorem codeB_loop (b : Code) : (codeB P B WB nt call L (.loop b)) = ⟨loopE (codeB P B WB nt call L b) L⟩ := rfl
theorem codeB_region (id : Nat) (ops : Array Oper) (draw : Bool) : (codeB P B WB nt call L (.region id ops draw)) = ⟨fun E H => normalOf ((regionB P B WB nt call ops draw).f E H)⟩ := rfl

theorem thenE_iff {r : CodeRes} {k : CodeF} {q : Ex × Tr AV × AH} (h : thenE r k = some q) :
    (∃ E H, r = some (.normal, E, H) ∧ k E H = some q) ∨ (r = some q ∧ q.1 ≠ .normal) := by
  obtain ⟨p, h1, h2⟩ := bindO_some_iff.1 h
  obtain ⟨e, E, H⟩ := p
  cases e with
  | normal => exact .inl ⟨E, H, h1, h2⟩
  | exit id => simp only [Option.some.injEq] at h2; subst h2; exact .inr ⟨h1, by simp⟩
  | ret => simp only [Option.some.injEq] at h2; subst h2; exact .inr ⟨h1, by simp⟩

theorem loopE_succ (body : Box CodeF) (n : Nat) (E : Tr AV) (H : AH) : loopE body (n + 1) E H = thenE (body.f E H) (loopE body n) := rfl

theorem loopE_next {body : Box CodeF} (ih : ∀ (E : Tr AV) (H : AH) (r : Ex × Tr AV × AH), body.f E H = some r → H.next ≤ r.2.2.next) :
    ∀ (n : Nat) (E : Tr AV) (H : AH) (r : Ex × Tr AV × AH), loopE body n E H = some r → H.next ≤ r.2.2.next := by
  intro n
  induction n with
  | zero => intro E H r h; cases h
  | succ n ihn =>
    intro E H r h
    rw [loopE_succ] at h
    rcases thenE_iff h with ⟨E1, H1, h1, h2⟩ | ⟨h1, _⟩
    · exact Nat.le_trans (ih _ _ _ h1) (ihn _ _ _ h2)
    · exact ih _ _ _ h1

theorem codeB_next (hc : ∀ f args H r, call f args H = some r → H.next ≤ r.2.next) (c : Code) : ∀ (E : Tr AV) (H : AH) (r : Ex × Tr AV × AH), (codeB P B WB nt call L c).f E H = some r → H.next ≤ r.2.2.next := by
  induction c with
  | skip => intro E H r h; have h' : some (Ex.normal, E, H) = some r := h; simp only [Option.some.injEq] at h'; subst h'; simp
  | label l => intro E H r h; have h' : some (Ex.normal, E, H) = some r := h; simp only [Option.some.injEq] at h'; subst h'; simp
  | ret => intro E H r h; have h' : some (Ex.ret, E, H) = some r := h; simp only [Option.some.injEq] at h'; subst h'; simp
  | exit id => intro E H r h; have h' : some (Ex.exit id, E, H) = some r := h; simp only [Option.some.injEq] at h'; subst h'; simp
  | region id ops draw =>
    intro E H r h
    rw [codeB_region] at h
    obtain ⟨q, h1, h2⟩ := bindO_some_iff.1 h
    simp only [Option.some.injEq] at h2; subst h2
    cases draw
    · exact opsB_next hc h1
    · exact drawnB_next hc h1
  | seq a b iha ihb =>
    intro E H r h
    rw [codeB_seq] at h
    rcases thenE_iff h with ⟨E1, H1, h1, h2⟩ | ⟨h1, _⟩
    · exact Nat.le_trans (iha _ _ _ h1) (ihb _ _ _ h2)
    · exact iha _ _ _ h1
  | cond c a b iha ihb =>
    intro E H r h
    rw [codeB_cond] at h
    obtain ⟨v, h1, h2⟩ := bindO_some_iff.1 h
    unfold condE at h2
    split at h2
    · exact iha _ _ _ h2
    · exact ihb _ _ _ h2
    · cases h2
  | block id b ih =>
    intro E H r h
    rw [codeB_block] at h
    obtain ⟨⟨e, E1, H1⟩, h1, h2⟩ := bindO_some_iff.1 h
    have := ih _ _ _ h1
    cases e with
    | normal => simp only [Option.some.injEq] at h2; subst h2; exact this
    | ret => simp only [Option.some.injEq] at h2; subst h2; exact this
    | exit id' =>
      simp only at h2
      cases hb : Nat.beq id' id <;> rw [hb] at h2 <;> simp only [cond_true, cond_false, Option.some.injEq] at h2 <;> subst h2 <;> exact this
  | loop b ih =>
    intro E H r h
    rw [codeB_loop] at h
    exact loopE_next ih _ _ _ _ h
  | rangeFunc f ps a b iha ihb => intro E H r h; cases h
  | scope b ih => intro E H r h; cases h
  | goto l => intro E H r h; cases h
  | refuse why => intro E H r h; cases h

theorem Comes'.trans {D : Nat → Prop} {ρ : Nat → Nat} {H H1 H2 : AH} {w w1 w2 : World} {D1 : Nat → Prop} {ρ1 : Nat → Nat} {E2 : Tr AV} {df : List Deferred} {a2 : Act} (hr : HR B WB D ρ H w)
    (hr1 : HR B WB D1 ρ1 H1 w1) (s : Stp WB D ρ H w D1 ρ1 H1 w1) (h : Comes' B WB nt D1 ρ1 H1 w1 E2 H2 df a2 w2) : Comes' B WB nt D ρ H w E2 H2 df a2 w2 := by
  obtain ⟨D2, ρ2, h1, h2, h3, h4⟩ := h
  exact ⟨D2, ρ2, h1, h2, Stp.trans hr.dom hr1.dom s h3, h4⟩

theorem codeB_ok (hc : CallOk P B WB call) (c : Code) : ∀ (D : Nat → Prop) (ρ : Nat → Nat) (H : AH) (w : World) (E : Tr AV) (a : Act) (r : Ex × Tr AV × AH) (Q : Exit → Act → World → Prop),
    (codeB P B WB nt call L c).f E H = some r → HR B WB D ρ H w → ER nt D ρ w.shape? E a → Free D H.next r.2.2.next →
    (∀ a' w', Comes' B WB nt D ρ H w r.2.1 r.2.2 a.defers a' w' → Q (exitOf r.1) a' w') → c.wp P Q a w := by
  induction c with
  | skip =>
    intro D ρ H w E a r Q h hr he hf hq
    have h' : some (Ex.normal, E, H) = some r := h
    simp only [Option.some.injEq] at h'; subst h'
    exact wp_skip (hq a w ⟨D, ρ, hr, he, Stp.refl _ _ _ _, rfl⟩)
  | label l =>
    intro D ρ H w E a r Q h hr he hf hq
    have h' : some (Ex.normal, E, H) = some r := h
    simp only [Option.some.injEq] at h'; subst h'
    exact wp_label (hq a w ⟨D, ρ, hr, he, Stp.refl _ _ _ _, rfl⟩)
  | ret =>
    intro D ρ H w E a r Q h hr he hf hq
    have h' : some (Ex.ret, E, H) = some r := h
    simp only [Option.some.injEq] at h'; subst h'
    exact wp_ret (hq a w ⟨D, ρ, hr, he, Stp.refl _ _ _ _, rfl⟩)
  | exit id =>
    intro D ρ H w E a r Q h hr he hf hq
    have h' : some (Ex.exit id, E, H) = some r := h
    simp only [Option.some.injEq] at h'; subst h'
    exact wp_exit (hq a w ⟨D, ρ, hr, he, Stp.refl _ _ _ _, rfl⟩)
  | region id ops draw =>
    intro D ρ H w E a r Q h hr he hf hq
    rw [codeB_region] at h
    obtain ⟨q, h1, h2⟩ := bindO_some_iff.1 h
    simp only [Option.some.injEq] at h2; subst h2
    cases draw
    · have h3 : (opsB P B WB call nt ops ops.toList).f E H = some q := h1
      have := opsB_ok hc (Q := Q) ops.toList 0 D ρ H w E a (by simp) h3 hr he hf hq
      refine wp_region ?_
      rw [List.range_eq_range']
      simpa using this
    · exact drawnB_ok hc h1 hr he hf hq
  | seq x y ihx ihy =>
    intro D ρ H w E a r Q h hr he hf hq
    rw [codeB_seq] at h
    refine wp_seq ?_
    rcases thenE_iff h with ⟨E1, H1, h1, h2⟩ | ⟨h1, hne⟩
    · have hn := codeB_next hc.next y _ _ _ h2
      refine ihx D ρ H w E a _ _ h1 hr he (hf.sub (Nat.le_refl _) hn) fun a1 w1 ⟨D1, ρ1, h3, h4, h5, h6⟩ => ?_
      show y.wp P Q a1 w1
      exact ihy D1 ρ1 H1 w1 E1 a1 r Q h2 h3 h4 (h5.free hf) fun a2 w2 h7 => hq a2 w2 (by rw [← h6]; exact Comes'.trans hr h3 h5 h7)
    · refine ihx D ρ H w E a _ _ h1 hr he hf fun a1 w1 h3 => ?_
      have := hq a1 w1 h3
      obtain ⟨e, E1, H1⟩ := r
      cases e with
      | normal => exact absurd rfl hne
      | exit id => exact this
      | ret => exact this
  | cond c x y ihx ihy =>
    intro D ρ H w E a r Q h hr he hf hq
    rw [codeB_cond] at h
    obtain ⟨v, h1, h2⟩ := bindO_some_iff.1 h
    have hv := opnd_ok hr.low he h1
    unfold condE at h2
    split at h2
    · generalize hce : a.eval c = c' at hv
      cases hv
      exact wp_cond_true hce (ihx D ρ H w E a r Q h2 hr he hf hq)
    · generalize hce : a.eval c = c' at hv
      cases hv
      exact wp_cond_false hce (ihy D ρ H w E a r Q h2 hr he hf hq)
    · cases h2
  | block id b ih =>
    intro D ρ H w E a r Q h hr he hf hq
    rw [codeB_block] at h
    obtain ⟨⟨e, E1, H1⟩, h1, h2⟩ := bindO_some_iff.1 h
    refine wp_block ?_
    cases e with
    | normal => simp only [Option.some.injEq] at h2; subst h2; exact ih D ρ H w E a _ _ h1 hr he hf fun a1 w1 h3 => hq a1 w1 h3
    | ret => simp only [Option.some.injEq] at h2; subst h2; exact ih D ρ H w E a _ _ h1 hr he hf fun a1 w1 h3 => hq a1 w1 h3
    | exit id' =>
      simp only at h2
      cases hb : Nat.beq id' id
      · rw [hb] at h2
        simp only [cond_false, Option.some.injEq] at h2; subst h2
        refine ih D ρ H w E a _ _ h1 hr he hf fun a1 w1 h3 => ?_
        have hne : ¬ id' = id := Nat.ne_of_beq_eq_false hb
        show (if id' = id then Q .normal a1 w1 else Q (.exit id') a1 w1)
        rw [if_neg hne]
        exact hq a1 w1 h3
      · rw [hb] at h2
        simp only [cond_true, Option.some.injEq] at h2; subst h2
        refine ih D ρ H w E a _ _ h1 hr he hf fun a1 w1 h3 => ?_
        have he' : id' = id := Nat.eq_of_beq_eq_true hb
        show (if id' = id then Q .normal a1 w1 else Q (.exit id') a1 w1)
        rw [if_pos he']
        exact hq a1 w1 h3
  | loop b ih =>
    intro D ρ H w E a r Q h hr he hf hq
    rw [codeB_loop] at h
    have key : ∀ (n : Nat) (D : Nat → Prop) (ρ : Nat → Nat) (H : AH) (w : World) (E : Tr AV) (a : Act), loopE (codeB P B WB nt call L b) n E H = some r → HR B WB D ρ H w →
        ER nt D ρ w.shape? E a → Free D H.next r.2.2.next → (∀ a' w', Comes' B WB nt D ρ H w r.2.1 r.2.2 a.defers a' w' → Q (exitOf r.1) a' w') →
        ∀ (bf : Frame) (k : List Item) (cs : List Frame), ∃ e a' w', Q e a' w' ∧ Arrives P (lone (bf.at a (.code b :: .inLoop b :: k)) cs w) bf k cs e a' w' := by
      intro n
      induction n with
      | zero => intro D ρ H w E a h; cases h
      | succ n ihn =>
        intro D ρ H w E a h hr he hf hq bf k cs
        rw [loopE_succ] at h
        rcases thenE_iff h with ⟨E1, H1, h1, h2⟩ | ⟨h1, hne⟩
        · have hn : H1.next ≤ r.2.2.next := loopE_next (fun E H r h => codeB_next hc.next b E H r h) n E1 H1 r h2
          obtain ⟨e, a1, w1, hq1, harr⟩ := ih D ρ H w E a (.normal, E1, H1) (fun e a1 w1 => e = .normal ∧ Comes' B WB nt D ρ H w E1 H1 a.defers a1 w1) h1 hr he (hf.sub (Nat.le_refl _) hn) (fun a1 w1 h3 => ⟨rfl, h3⟩) bf (.inLoop b :: k) cs
          obtain ⟨rfl, D1, ρ1, h3, h4, h5, h6⟩ := hq1
          obtain ⟨e2, a2, w2, hq2, harr2⟩ := ihn D1 ρ1 H1 w1 E1 a1 h2 h3 h4 (h5.free hf) (fun a2 w2 h7 => hq a2 w2 (by rw [← h6]; exact Comes'.trans hr h3 h5 h7)) bf k cs
          exact ⟨e2, a2, w2, hq2, .of_steps (Steps.trans harr (.one step_inLoop)) harr2⟩
        · obtain ⟨e, a1, w1, hq1, harr⟩ := ih D ρ H w E a r (fun e a1 w1 => e = exitOf r.1 ∧ Comes' B WB nt D ρ H w r.2.1 r.2.2 a.defers a1 w1) h1 hr he hf (fun a1 w1 h3 => ⟨rfl, h3⟩) bf (.inLoop b :: k) cs
          obtain ⟨rfl, h3⟩ := hq1
          have hq' := hq a1 w1 h3
          obtain ⟨x, E1, H1⟩ := r
          cases x with
          | normal => exact absurd rfl hne
          | exit id => exact ⟨_, a1, w1, hq', .pass (x := .inLoop b) rfl (fun _ _ => .inl (by simp [exitOf])) harr⟩
          | ret => exact ⟨_, a1, w1, hq', .pass (x := .inLoop b) rfl (fun _ _ => .inl (by simp [exitOf])) harr⟩
    intro bf k cs
    obtain ⟨e, a', w', h1, h2⟩ := key L D ρ H w E a h hr he hf hq bf k cs
    exact ⟨e, a', w', h1, .of_steps (.one step_loop) h2⟩
  | rangeFunc f ps x y ihx ihy => intro D ρ H w E a r Q h; cases h
  | scope b ih => intro D ρ H w E a r Q h; cases h
  | goto l => intro D ρ H w E a r Q h; cases h
  | refuse why => intro D ρ H w E a r Q h; cases h

/-! Calls. -/
theorem envOf_cons (v : AV) (l : List AV) (i : Nat) (E : Tr AV) (k : Tr AV → Res) : envOf (v :: l) i E k = envOf l (i + 1) (E.set i (some v)) k := by
  show Tr.setK (some v) (i + 1) E i (fun E => natK (i + 1) fun i => envOf l i E k) = _
  rw [Tr.setK_set, natK_eq]

theorem envOf_ok {sh : Nat → Option (TypeId × Nat)} {k : Tr AV → Res} {r : AV × AH} : ∀ (l : List AV) (l' done : List Value) (i : Nat) (E : Tr AV), VRL D ρ sh l l' → done.length = i →
    (∀ t v, E.get t = some v → ∃ v', done[t]? = some v' ∧ VR D ρ sh v v') → envOf l i E k = some r →
    ∃ E', k E' = some r ∧ ∀ t v, E'.get t = some v → ∃ v', (done ++ l')[t]? = some v' ∧ VR D ρ sh v v'
  | [], _, done, i, E, .nil, hd, he, h => ⟨E, h, by simpa using he⟩
  | _, _, done, i, E, .cons v v' l l' hv hl, hd, he, h => by
    rw [envOf_cons] at h
    have := envOf_ok l l' (done ++ [v']) (i + 1) (E.set i (some v)) hl (by simp [hd]) (fun t u hu => by
      rw [Tr.get_set] at hu
      by_cases ht : t = i
      · rw [if_pos ht] at hu
        simp only [Option.some.injEq] at hu; subst hu
        exact ⟨v', by rw [ht, ← hd]; simp, hv⟩
      · rw [if_neg ht] at hu
        obtain ⟨u', h1, h2⟩ := he t u hu
        exact ⟨u', by rw [List.getElem?_append_left (List.getElem?_eq_some_iff.1 h1).1]; exact h1, h2⟩) h
    simpa using this

/-- A result. -/
def rvOf (tmps : Array Value) : ResultVar → Sem Value
  | .tmp t => pure (tmps.getD t undef)
  | .cell p t => do loadVar t (← asAddr (tmps.getD p undef))

theorem resV_ok (hr : HR B WB D ρ H w) {E : Tr AV} {a : Act} (he : ER nt D ρ w.shape? E a) {x : ResultVar} {v : AV} (h : resV P E H x = some v) :
    Yld P D ρ w.shape? w (rvOf a.tmps x) v := by
  cases x with
  | tmp t =>
    obtain ⟨v', h1, h2⟩ := he.get t v h
    exact ⟨v', by simp [rvOf, h1], h2⟩
  | cell p t =>
    obtain ⟨q, h1, h2⟩ := bindO_some_iff.1 h
    obtain ⟨q', h3, h4⟩ := he.get p q h1
    obtain ⟨v', h5, h6⟩ := loadE_ok hr h4 h2
    refine ⟨v', ?_, h6⟩
    have hq : ∃ A, q' = .pointer (some A) := by
      cases h4 <;> first
        | exact ⟨_, rfl⟩
        | (exfalso; simp only [Instr.loadAt, Sem.run_bind, Instr.sureAddr, run_stuck, Result.andThen_halt, reduceCtorEq] at h5)
        | skip
      all_goals
        unfold loadE at h2
        split at h2
        · split at h2
          · rw [natK_eq] at h2; cases h2
          · cases h2
        · cases h2
        · cases h2
    obtain ⟨A, rfl⟩ := hq
    rw [← h5]
    simp [rvOf, h3, asAddr, Instr.loadAt, Instr.sureAddr]

theorem resL_ok (hr : HR B WB D ρ H w) {E : Tr AV} {a : Act} (he : ER nt D ρ w.shape? E a) : ∀ (l : List ResultVar) (vs : List AV), resL P E H l = some vs →
    ∃ vs' : List Value, (l.mapM (rvOf a.tmps)).run P w = .ok vs' w ∧ VRL D ρ w.shape? vs vs'
  | [], vs, h => by simp only [resL, Option.some.injEq] at h; subst h; exact ⟨[], rfl, .nil⟩
  | x :: l, vs, h => by
    simp only [resL] at h
    obtain ⟨v, h1, h2⟩ := bindO_some_iff.1 h
    obtain ⟨us, h3, h4⟩ := bindO_some_iff.1 h2
    simp only [Option.some.injEq] at h4; subst h4
    obtain ⟨v', h5, h6⟩ := resV_ok hr he h1
    obtain ⟨us', h7, h8⟩ := resL_ok hr he l us h3
    refine ⟨v' :: us', ?_, .cons _ _ _ _ h6 h8⟩
    rw [List.mapM_cons]
    simp only [Sem.run_bind, h5, h7, Result.andThen_ok, Sem.run_pure]

theorem shutE_ok {sh : Nat → Option (TypeId × Nat)} {vs : List AV} {vs' : Array Value} (h : VRL D ρ sh vs vs'.toList) : VR D ρ sh (shutE vs) (if h : vs'.size = 1 then vs'[0] else .tuple vs') := by
  unfold shutE
  split
  · rename_i v
    obtain ⟨L⟩ := vs'
    cases h with | cons _ v' _ l' h1 h2 => cases h2 with | nil => simpa using h1
  · rename_i hne
    have hs : ¬ vs'.size = 1 := by
      intro e
      have hl := h.length
      simp at hl
      rw [e] at hl
      obtain ⟨v, hv⟩ := List.length_eq_one_iff.1 hl
      exact hne v hv
    rw [dif_neg hs]
    exact .tup _ _ h

theorem results_ok (hr : HR B WB D ρ H w) {E : Tr AV} {a : Act} (he : ER nt D ρ w.shape? E a) {fn : Func} {vs : List AV} (h : resL P E H fn.results.toList = some vs) :
    ∃ v', (results fn a.tmps).run P w = .ok v' w ∧ VR D ρ w.shape? (shutE vs) v' := by
  obtain ⟨vs', h1, h2⟩ := resL_ok hr he _ _ h
  refine ⟨_, ?_, shutE_ok (vs' := vs'.toArray) (by simpa using h2)⟩
  have e : results fn a.tmps = (do
      let vs ← fn.results.mapM (rvOf a.tmps)
      pure (if h : vs.size = 1 then vs[0] else .tuple vs)) := by
    unfold results
    congr 1
  rw [e, Sem.run_bind, Array.mapM_eq_mapM_toList, Sem.run_map, h1]
  rfl

theorem callE_zero {prim : FuncId → Option (List AV → AH → Res)} (f : FuncId) (args : List AV) (H : AH) : callE P B WB L prim 0 f args H = none := rfl
theorem callE_succ {prim : FuncId → Option (List AV → AH → Res)} (n : Nat) (f : FuncId) (args : List AV) (H : AH) : callE P B WB L prim (n + 1) f args H = (match prim f with
      | some g => g args H
      | none => (bodyB P B WB L (callE P B WB L prim n) f).f args H) := rfl

theorem bodyB_iff {f : FuncId} {args : List AV} {r : AV × AH} (h : (bodyB P B WB L call f).f args H = some r) :
    ∃ fn c, P.funcs[f]? = some fn ∧ fn.body = some c ∧ (fn.name == "runtime.NumGoroutine") = false ∧ args.length ≤ fn.ntmps ∧
      envOf args 0 .nil (fun E => resE P fn.results.toList ((codeB P B WB fn.ntmps call L c).f E H)) = some r := by
  unfold bodyB at h
  split at h
  · rename_i fn hfn
    split at h
    · rename_i c hb
      cases hn : (fn.name == "runtime.NumGoroutine")
      · rw [hn] at h
        simp only [Bool.not_false, cond_true, natK_eq] at h
        cases hl : Nat.ble args.length fn.ntmps
        · rw [hl] at h; cases h
        · rw [hl] at h
          exact ⟨fn, c, hfn, hb, hn, Nat.le_of_ble_eq_true hl, h⟩
      · rw [hn] at h; cases h
    · cases h
  · cases h

theorem resE_iff {rs : List ResultVar} {q : CodeRes} {r : AV × AH} (h : resE P rs q = some r) : ∃ x E H' vs, q = some (x, E, H') ∧ (x = .normal ∨ x = .ret) ∧ resL P E H' rs = some vs ∧ r = (shutE vs, H') := by
  obtain ⟨⟨x, E, H'⟩, h1, h2⟩ := bindO_some_iff.1 h
  cases x with
  | exit id => cases h2
  | normal =>
    obtain ⟨vs, h3, h4⟩ := bindO_some_iff.1 h2
    simp only [Option.some.injEq] at h4
    exact ⟨_, E, H', vs, h1, .inl rfl, h3, h4.symm⟩
  | ret =>
    obtain ⟨vs, h3, h4⟩ := bindO_some_iff.1 h2
    simp only [Option.some.injEq] at h4
    exact ⟨_, E, H', vs, h1, .inr rfl, h3, h4.symm⟩

/-- What is asked of the functions that are not walked into. -/
def PrimOk (P : Program) (B WB : Nat) (prim : FuncId → Option (List AV → AH → Res)) : Prop :=
  ∀ f g, prim f = some g → (∀ args H r, g args H = some r → H.next ≤ r.2.next) ∧
    ∀ args H r, g args H = some r → ∀ D ρ w (args' : Array Value), HR B WB D ρ H w → VRL D ρ w.shape? args args'.toList → Free D H.next r.2.next →
      SDoes P (callFunc f args') w (Aft B WB D ρ H w r)

theorem callE_ok {prim : FuncId → Option (List AV → AH → Res)} (hp : PrimOk P B WB prim) : ∀ n, CallOk P B WB (callE P B WB L prim n)
  | 0 => ⟨(fun _ _ _ _ h => by cases h), (fun _ _ _ _ h => by cases h)⟩
  | n + 1 => by
    have ih := callE_ok hp n
    refine ⟨fun f args H r h => ?_, fun f args H r h D ρ w args' hr ha hf => ?_⟩
    · rw [callE_succ] at h
      split at h
      · rename_i g hg
        exact (hp f g hg).1 args H r h
      · obtain ⟨fn, c, _, _, _, _, h1⟩ := bodyB_iff h
        have key : ∀ (l : List AV) (i : Nat) (E : Tr AV), envOf l i E (fun E => resE P fn.results.toList ((codeB P B WB fn.ntmps (callE P B WB L prim n) L c).f E H)) = some r → H.next ≤ r.2.next := by
          intro l
          induction l with
          | nil =>
            intro i E h2
            obtain ⟨x, E', H', vs, h3, _, _, h4⟩ := resE_iff h2
            subst h4
            exact codeB_next ih.next c _ _ _ h3
          | cons v l ihl =>
            intro i E h2
            rw [envOf_cons] at h2
            exact ihl _ _ h2
        exact key _ _ _ h1
    · rw [callE_succ] at h
      split at h
      · rename_i g hg
        exact (hp f g hg).2 args H r h D ρ w args' hr ha hf
      · obtain ⟨fn, c, hfn, hb, hname, hlen, h1⟩ := bodyB_iff h
        obtain ⟨E, h2, h3⟩ := envOf_ok args args'.toList [] 0 .nil ha rfl (fun t v h => by rw [Tr.get_nil] at h; cases h) h1
        obtain ⟨x, E', H', vs, h4, hx, h5, h6⟩ := resE_iff h2
        subst h6
        have hal : args'.size = args.length := by have := ha.length; simpa using this.symm
        refine .inr ⟨f, args', w, ?_, calls_of_wp hfn hb ?_⟩
        · simp only [callFunc, Sem.run_bind, run_program, Result.andThen_ok, hfn, hname, hb]
          simp
        · have he : ER fn.ntmps D ρ w.shape? E { tmps := args' ++ Array.replicate (fn.ntmps - args'.size) undef, defers := [] } := by
            refine ⟨by simp; omega, fun t v ht => ?_⟩
            obtain ⟨v', h7, h8⟩ := h3 t v ht
            refine ⟨v', ?_, h8⟩
            simp only [List.nil_append] at h7
            have hlt : t < args'.size := by have := (List.getElem?_eq_some_iff.1 h7).1; simpa using this
            show (args' ++ _)[t]? = _
            rw [Array.getElem?_append_left hlt, ← Array.getElem?_toList]
            exact h7
          refine codeB_ok ih c D ρ H w E _ _ _ h4 hr he hf fun a' w' ⟨D', ρ', h7, h8, h9, h10⟩ => ?_
          obtain ⟨v', h11, h12⟩ := results_ok h7 h8 h5
          rcases hx with rfl | rfl
          · exact ⟨h10, v', h11, v', rfl, D', ρ', h7, h12, h9⟩
          · exact ⟨h10, v', h11, v', rfl, D', ρ', h7, h12, h9⟩
end
end Go.Ev
