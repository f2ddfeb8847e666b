/- Regions whose order is drawn: masks, traces, what an operation looks at. -/
import Derived.Test.YtigfokpgohaniaaGreatDoorEvSE
namespace Go.Ev
open Go
section
variable {P : Program} {B WB : Nat}
variable {D : Nat → Prop} {ρ : Nat → Nat} {w : World} {nt : Nat} {H : AH} {call : FuncId → List AV → AH → Res}

/-! What an operation looks at. -/
theorem opnd_congr {E E' : Tr AV} {x : Operand} (h : ∀ t, x = .tmp t → E.get t = E'.get t) : (opnd B x).f E = (opnd B x).f E' := by
  cases x with
  | tmp t => exact h t rfl
  | const v => simp only [opnd]; split <;> rfl
  | global g => simp only [opnd]; cases Nat.blt g B <;> rfl
  | func f => rfl
theorem opnds_congr {E E' : Tr AV} : ∀ {l : List Operand}, (∀ t, .tmp t ∈ l → E.get t = E'.get t) → (opnds B l).f E = (opnds B l).f E'
  | [], _ => rfl
  | x :: l, h => by
    show bindO ((opnd B x).f E) (fun v => bindO ((opnds B l).f E) fun r => some (v :: r)) = bindO ((opnd B x).f E') (fun v => bindO ((opnds B l).f E') fun r => some (v :: r))
    rw [opnd_congr (fun t e => h t (by rw [e]; exact List.mem_cons_self)), opnds_congr (fun t ht => h t (List.mem_cons_of_mem _ ht))]
theorem opndP_congr {E E' : Tr AV} : ∀ {l : List (Nat × Operand)}, (∀ t, .tmp t ∈ l.map (·.2) → E.get t = E'.get t) → (opndP B l).f E = (opndP B l).f E'
  | [], _ => rfl
  | x :: l, h => by
    show bindO ((opnd B x.2).f E) (fun v => bindO ((opndP B l).f E) fun r => some ((x.1, v) :: r)) = bindO ((opnd B x.2).f E') (fun v => bindO ((opndP B l).f E') fun r => some ((x.1, v) :: r))
    rw [opnd_congr (fun t e => h t (by rw [List.map_cons, e]; exact List.mem_cons_self)), opndP_congr (fun t ht => h t (List.mem_cons_of_mem _ ht))]
theorem optB_congr {E E' : Tr AV} {x : Option Operand} (h : ∀ t, x = some (.tmp t) → E.get t = E'.get t) : (optB B x).f E = (optB B x).f E' := by
  cases x with
  | none => rfl
  | some x =>
    show bindO ((opnd B x).f E) (fun v => some (some v)) = bindO ((opnd B x).f E') (fun v => some (some v))
    rw [opnd_congr (fun t e => h t (by rw [e]))]

/-- Two lists of temporaries that an operation tells alike. -/
def Agree (op : Op) (E E' : Tr AV) : Prop := ∀ t, .tmp t ∈ op.operands → E.get t = E'.get t

theorem call_args {c : Call} {E E' : Tr AV} (h : Agree (.call c) E E') : ∀ t, .tmp t ∈ c.args.toList → E.get t = E'.get t := fun t ht => h t (by
  simp only [Op.operands, Call.operands]
  exact Array.mem_append.2 (.inr (by simpa using ht)))

theorem pureB_congr {op : Op} {E E' : Tr AV} (h : Agree op E E') : (pureB P B op).f E = (pureB P B op).f E' := by
  unfold Agree at h
  cases op <;> simp only [pureB, Unary, Binary] <;> first
    | rfl
    | skip
  all_goals simp only [Op.operands] at h
  case move x => exact opnd_congr fun t e => h t (by simp [e])
  case assign x => exact opnd_congr fun t e => h t (by simp [e])
  case pick c a b => rw [opnd_congr (x := c) fun t e => h t (by simp [e]), opnd_congr (x := a) fun t e => h t (by simp [e]), opnd_congr (x := b) fun t e => h t (by simp [e])]
  case nilCheck x => rw [opnd_congr (x := x) fun t e => h t (by simp [e])]
  case binOp op t x y yt => rw [opnd_congr (x := x) fun t e => h t (by simp [e]), opnd_congr (x := y) fun t e => h t (by simp [e])]
  case unOp op t x => rw [opnd_congr (x := x) fun t e => h t (by simp [e])]
  case convert s d x => rw [opnd_congr (x := x) fun t e => h t (by simp [e])]
  case makeInterface t x => rw [opnd_congr (x := x) fun t e => h t (by simp [e])]
  case makeFunc fn f c => rw [opnds_congr (l := f.toList) fun t e => h t (by simp at e; simp [e]), opnds_congr (l := c.toList) fun t e => h t (by simp at e; simp [e])]
  case slice t x lo hi mx =>
    rw [opnd_congr (x := x) fun t e => h t (by simp [e]), optB_congr (x := lo) fun t e => h t (by simp [e]), optB_congr (x := hi) fun t e => h t (by simp [e]), optB_congr (x := mx) fun t e => h t (by simp [e])]
  case fieldAddr s x f => rw [opnd_congr (x := x) fun t e => h t (by simp [e])]
  case field s x f => rw [opnd_congr (x := x) fun t e => h t (by simp [e])]
  case indexAddr t x y => rw [opnd_congr (x := x) fun t e => h t (by simp [e]), opnd_congr (x := y) fun t e => h t (by simp [e])]
  case index t x y => rw [opnd_congr (x := x) fun t e => h t (by simp [e]), opnd_congr (x := y) fun t e => h t (by simp [e])]
  case build t ps => rw [opndP_congr (l := ps.toList) fun t e => h t (by simpa using e)]
  case typeAssert x a b c => rw [opnd_congr (x := x) fun t e => h t (by simp [e])]
  case extract x i => rw [opnd_congr (x := x) fun t e => h t (by simp [e])]
  case call c =>
    have hc := call_args (c := c) (E := E) (E' := E') h
    unfold callPure
    split
    · unfold builtinPure
      split
      · split
        · simp only [opnds_congr hc]
        · rfl
      · simp only [opnds_congr hc]
      · simp only [opnds_congr hc]
      · rfl
    · rfl

theorem readB_congr {op : Op} {E E' : Tr AV} (h : Agree op E E') : (readB P B op).f E H = (readB P B op).f E' H := by
  unfold Agree at h
  cases op <;> simp only [readB, UnaryR, Binary] <;> first
    | rfl
    | skip
  all_goals simp only [Op.operands] at h
  case load t x => rw [opnd_congr (x := x) fun t e => h t (by simp [e])]
  case lookup t x y k => rw [opnd_congr (x := x) fun t e => h t (by simp [e]), opnd_congr (x := y) fun t e => h t (by simp [e])]
  case convert s d x => rw [opnd_congr (x := x) fun t e => h t (by simp [e])]
  case entry x => rw [opnd_congr (x := x) fun t e => h t (by simp [e])]
  case call c =>
    have hc := call_args (c := c) (E := E) (E' := E') h
    unfold callRead
    split
    · split
      · simp only [opnds_congr hc]
      · rfl
    · rfl

theorem allocB_congr {op : Op} {E E' : Tr AV} (h : Agree op E E') : (allocB P B op).f E = (allocB P B op).f E' := by
  unfold Agree at h
  cases op <;> simp only [allocB] <;> first
    | rfl
    | skip
  all_goals simp only [Op.operands] at h
  case alloc e => unfold allocZ; split <;> rfl
  case box e x => rw [opnd_congr (x := x) fun t e => h t (by simp [e])]
  case buildSlice t n ps => rw [opndP_congr (l := ps.toList) fun t e => h t (by simpa using e)]
  case makeSlice t x y => rw [opnd_congr (x := x) fun t e => h t (by simp [e]), opnd_congr (x := y) fun t e => h t (by simp [e])]
  case makeMap t r => cases r <;> rfl
  case convert s d x => rw [opnd_congr (x := x) fun t e => h t (by simp [e])]

theorem chainB_congr {op : Op} {E E' : Tr AV} (h : Agree op E E') : (chainB P B WB call op).f E H = (chainB P B WB call op).f E' H := by
  have h0 := h
  unfold Agree at h
  cases op <;> simp only [chainB, Unary2] <;> first
    | rfl
    | skip
  all_goals simp only [Op.operands] at h
  case store t x y => rw [opnd_congr (x := x) fun t e => h t (by simp [e]), opnd_congr (x := y) fun t e => h t (by simp [e])]
  case mapUpdate t x y z => rw [opnd_congr (x := x) fun t e => h t (by simp [e]), opnd_congr (x := y) fun t e => h t (by simp [e]), opnd_congr (x := z) fun t e => h t (by simp [e])]
  case insert t x y z => rw [opnd_congr (x := x) fun t e => h t (by simp [e]), opnd_congr (x := y) fun t e => h t (by simp [e]), opnd_congr (x := z) fun t e => h t (by simp [e])]
  case range t x => rw [opnd_congr (x := x) fun t e => h t (by simp [e])]
  case next x s => rw [opnd_congr (x := x) fun t e => h t (by simp [e])]
  case call c =>
    have hc := call_args h0
    unfold callChain
    split
    · simp only [opnds_congr hc]
    · simp only [opnds_congr hc]
    · rename_i f _ hv
      simp only [opnds_congr hc]
      rw [opnd_congr (x := f) fun t e => h t (by simp [Call.operands, hv, e])]
    · rename_i r n hv
      simp only [opnds_congr hc]
      rw [opnd_congr (x := r) fun t e => h t (by simp [Call.operands, hv, e])]

/-! Masks. -/
theorem hasBit_eq (m i : Nat) : hasBit m i = m.testBit i := by
  unfold hasBit
  rw [Bool.eq_iff_iff, Nat.beq_eq]
  have h1 : Nat.land (Nat.shiftRight m i) 1 = (m >>> i) % 2 := Nat.and_one_is_mod (m >>> i)
  rw [h1, Nat.testBit_eq_decide_div_mod_eq, decide_eq_true_eq, Nat.shiftRight_eq_div_pow]

theorem maskOf_spec {ms : List Nat} : ∀ {es : List Edge} {i : Nat}, hasBit (maskOf ms es) i = true → ∃ e ∈ es, Region.binds .any e = true ∧ (e.on = i ∨ hasBit (ms.getD e.on 0) i = true)
  | [], i, h => by
    rw [hasBit_eq] at h
    simp [maskOf] at h
  | e :: es, i, h => by
    simp only [maskOf] at h
    cases hb : Region.binds .any e
    · rw [hb] at h
      obtain ⟨e', h1, h2⟩ := maskOf_spec h
      exact ⟨e', List.mem_cons_of_mem _ h1, h2⟩
    · rw [hb] at h
      simp only [cond_true] at h
      rw [hasBit_eq] at h
      have h' : ((1 <<< e.on ||| ms.getD e.on 0) ||| maskOf ms es).testBit i = true := h
      rw [Nat.testBit_or, Nat.testBit_or, Bool.or_eq_true, Bool.or_eq_true] at h'
      rcases h' with (h1 | h1) | h1
      · refine ⟨e, List.mem_cons_self, hb, .inl ?_⟩
        rw [Nat.one_shiftLeft, Nat.testBit_two_pow] at h1
        simpa using h1
      · exact ⟨e, List.mem_cons_self, hb, .inr (by rw [hasBit_eq]; exact h1)⟩
      · obtain ⟨e', h2, h3⟩ := maskOf_spec (ms := ms) (es := es) (i := i) (by rw [hasBit_eq]; exact h1)
        exact ⟨e', List.mem_cons_of_mem _ h2, h3⟩

theorem masks_pre : ∀ (l : List Oper) (acc : List Nat) (k : Nat), k < acc.length → (masks l acc).getD k 0 = acc.getD k 0
  | [], acc, k, _ => rfl
  | o :: l, acc, k, h => by
    simp only [masks, natK_eq]
    rw [masks_pre l _ k (by simp; omega)]
    simp only [List.getD_eq_getElem?_getD]
    rw [List.getElem?_append_left h]

theorem hasBit_zero (i : Nat) : hasBit 0 i = false := by rw [hasBit_eq]; simp

theorem masks_spec : ∀ (l : List Oper) (acc : List Nat) (j i : Nat) (o : Oper), l[j]? = some o → hasBit ((masks l acc).getD (acc.length + j) 0) i = true →
    ∃ e ∈ o.after.toList, Region.binds .any e = true ∧ (e.on = i ∨ hasBit ((masks l acc).getD e.on 0) i = true)
  | [], _, _, _, _, h, _ => by simp at h
  | o' :: l, acc, 0, i, o, h, hb => by
    simp at h; subst h
    simp only [masks, natK_eq, Nat.add_zero] at hb
    rw [masks_pre l _ acc.length (by simp)] at hb
    have e1 : (acc ++ [maskOf acc o'.after.toList]).getD acc.length 0 = maskOf acc o'.after.toList := by simp [List.getD_eq_getElem?_getD]
    rw [e1] at hb
    obtain ⟨e, h1, h2, h3⟩ := maskOf_spec hb
    refine ⟨e, h1, h2, ?_⟩
    rcases h3 with h3 | h3
    · exact .inl h3
    · refine .inr ?_
      have hlt : e.on < acc.length := by
        rcases Nat.lt_or_ge e.on acc.length with h4 | h4
        · exact h4
        · rw [List.getD_eq_getElem?_getD, List.getElem?_eq_none h4] at h3
          simp only [Option.getD_none, hasBit_zero] at h3
          cases h3
      simp only [masks, natK_eq]
      rw [masks_pre l _ e.on (by simp; omega)]
      simp only [List.getD_eq_getElem?_getD] at h3 ⊢
      rw [List.getElem?_append_left hlt]
      exact h3
  | o' :: l, acc, j + 1, i, o, h, hb => by
    simp only [masks, natK_eq] at hb ⊢
    have := masks_spec l (acc ++ [maskOf acc o'.after.toList]) j i o (by simpa using h) (by
      simp only [List.length_append, List.length_cons, List.length_nil]
      rw [show acc.length + (0 + 1) + j = acc.length + (j + 1) by omega]
      exact hb)
    exact this

/-! One and the same. -/
mutual
theorem AV.same_eq : ∀ {a b : AV}, AV.same a b = true → a = b := by
  intro a b h
  unfold AV.same at h
  split at h
  · simp only [beq_iff_eq] at h; rw [h]
  · simp only [Bool.and_eq_true, sameK_eq, decide_eq_true_eq, eqI_eq, beq_iff_eq] at h; rw [h.1, h.2]
  · simp only [eqS_eq, beq_iff_eq] at h; rw [h]
  · simp only [decide_eq_true_eq] at h; rw [h]
  · simp only [Bool.and_eq_true, decide_eq_true_eq, Nat.beq_eq] at h; rw [h.1.1, h.1.2, h.2]
  · simp only [decide_eq_true_eq] at h; rw [h]
  · simp only [Bool.and_eq_true, Nat.beq_eq] at h
    rw [h.1.1, AV.sames_eq h.1.2, AV.sames_eq h.2]
  · rfl
  · simp only [Bool.and_eq_true, Nat.beq_eq] at h
    rw [h.1, AV.same_eq h.2]
  · rfl
  · rw [AV.sames_eq h]
  · rw [AV.sames_eq h]
  · cases h
theorem AV.sames_eq : ∀ {a b : List AV}, AV.sames a b = true → a = b := by
  intro a b h
  unfold AV.sames at h
  split at h
  · rfl
  · simp only [Bool.and_eq_true] at h
    rw [AV.same_eq h.1, AV.sames_eq h.2]
  · cases h
end
theorem sameO_eq {v : AV} {x : Option AV} (h : sameO v x = true) : x = some v := by
  unfold sameO at h
  split at h
  · rw [AV.same_eq h]
  · cases h
end
end Go.Ev
