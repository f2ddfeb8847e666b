/- Regions whose order is drawn: the trace of the one order in which the evaluator goes. -/
import Derived.Test.YtigfokpgohaniaaGreatDoorEvSF1
namespace Go.Ev
open Go
section
variable (P : Program) (B WB nt : Nat) (call : FuncId → List AV → AH → Res)

def PutR (dst : Option Tmp) (v : AV) (E E' : Tr AV) : Prop := (dst = none ∧ E' = E) ∨ ∃ d, dst = some d ∧ d < nt ∧ E' = E.set d (some v)

/-- What one step of the trace is. -/
inductive Kd (ms : List Nat) (j : Nat) (o : Oper) (s s' : RS) (v : AV) : Bool → Prop where
  | skip : v = .undef → s'.H = s.H → s'.pend = s.pend → s'.reads = s.reads → s'.hist = s.hist → Kd ms j o s s' v false
  | pure : clsE P o.op = .pure → (pureB P B o.op).f s.E = some v → s'.H = s.H → s'.pend = s.pend → s'.reads = s.reads → s'.hist = s.hist → Kd ms j o s s' v true
  | read : clsE P o.op = .read → (readB P B o.op).f s.E (withPend (ms.getD j 0) s.pend s.H) = some v → histSame P B (ms.getD j 0) s.pend s.E o.op v s.hist = true →
      s'.H = s.H → s'.pend = s.pend → s'.reads = (j, o.op, s.E, v) :: s.reads → s'.hist = s.hist → Kd ms j o s s' v true
  | alloc (m : Made) : clsE P o.op = .alloc → (allocB P B o.op).f s.E = some m → v = m.1 s.H.next → s'.H = ⟨s.H.m, s.H.next + 1⟩ → s'.pend = (j, s.H.next, m.2) :: s.pend →
      s'.reads = s.reads → s'.hist = s.hist → Kd ms j o s s' v true
  | chain : clsE P o.op = .chain → lastIn (ms.getD j 0) s.hist = true → (chainB P B WB call o.op).f s.E (withPend (ms.getD j 0) s.pend s.H) = some (v, s'.H) →
      readsSame P B (ms.getD j 0) (restPend (ms.getD j 0) s.pend) ms s'.H s.reads = true → s'.pend = restPend (ms.getD j 0) s.pend → s'.reads = s.reads → s'.hist = (j, s.H) :: s.hist →
      Kd ms j o s s' v true

structure StepR (ops : Array Oper) (ms : List Nat) (j : Nat) (o : Oper) (s s' : RS) (b : Bool) (v : AV) : Prop where
  want : (wantE ops o).f s.E = some b
  put : PutR nt o.dst v s.E s'.E
  kind : Kd P B WB call ms j o s s' v b

variable {P B WB nt call}

theorem put_iff {dst : Option Tmp} {v : AV} {E : Tr AV} {k : Tr AV → RegRes} {r : Tr AV × AH} (h : (putB nt dst).f v E k = some r) : ∃ E', PutR nt dst v E E' ∧ k E' = some r := by
  rcases putB_iff h with ⟨h1, h2⟩ | ⟨d, h1, h2, h3⟩
  · exact ⟨E, .inl ⟨h1, rfl⟩, h2⟩
  · exact ⟨_, .inr ⟨d, h1, h2, rfl⟩, h3⟩

theorem regStep_iff {ops : Array Oper} {ms : List Nat} {j : Nat} {o : Oper} {rest : Box (RS → RegRes)} {s : RS} {r : Tr AV × AH} (hw : (wantE ops o).f s.E = some true)
    (h : (regStep P B WB nt call ms j o rest).f s = some r) : ∃ s' v, StepR P B WB nt call ops ms j o s s' true v ∧ rest.f s' = some r := by
  unfold regStep at h
  split at h
  · rename_i hcl
    obtain ⟨v, h1, h2⟩ := bindO_some_iff.1 h
    obtain ⟨E', h3, h4⟩ := put_iff h2
    refine ⟨_, v, ?_, h4⟩; exact ⟨hw, h3, .pure hcl h1 rfl rfl rfl rfl⟩
  · rename_i hcl
    obtain ⟨v, h1, h2⟩ := bindO_some_iff.1 h
    cases hh : histSame P B (ms.getD j 0) s.pend s.E o.op v s.hist
    · rw [hh] at h2; cases h2
    · rw [hh] at h2
      simp only [cond_true] at h2
      obtain ⟨E', h3, h4⟩ := put_iff h2
      refine ⟨_, v, ?_, h4⟩; exact ⟨hw, h3, .read hcl h1 hh rfl rfl rfl rfl⟩
  · rename_i hcl
    obtain ⟨m, h1, h2⟩ := bindO_some_iff.1 h
    rw [natK_eq] at h2
    obtain ⟨E', h3, h4⟩ := put_iff h2
    refine ⟨_, m.1 s.H.next, ?_, h4⟩; exact ⟨hw, h3, .alloc m hcl h1 rfl rfl rfl rfl rfl⟩
  · rename_i hcl
    have h0 : regChain P B WB nt call ms j o rest s = some r := h
    unfold regChain at h0
    cases hl : lastIn (ms.getD j 0) s.hist
    · rw [hl] at h0; cases h0
    · rw [hl] at h0
      simp only [cond_true] at h0
      obtain ⟨q, h1, h2⟩ := bindO_some_iff.1 h0
      cases hh : readsSame P B (ms.getD j 0) (restPend (ms.getD j 0) s.pend) ms q.2 s.reads
      · rw [hh] at h2; cases h2
      · rw [hh] at h2
        simp only [cond_true] at h2
        obtain ⟨E', h3, h4⟩ := put_iff h2
        refine ⟨_, q.1, ?_, h4⟩; exact ⟨hw, h3, .chain hcl hl h1 hh rfl rfl rfl⟩

theorem regB_cons (ops : Array Oper) (ms : List Nat) (o : Oper) (l : List Oper) (j : Nat) : regB P B WB nt call ops ms (o :: l) j = (match o.guard with
      | none => regStep P B WB nt call ms j o (regB P B WB nt call ops ms l (j + 1))
      | some _ => ⟨fun s => bindO ((wantE ops o).f s.E) fun b =>
          bif b then (regStep P B WB nt call ms j o (regB P B WB nt call ops ms l (j + 1))).f s else regSkip nt o (regB P B WB nt call ops ms l (j + 1)) s⟩) := rfl

theorem regB_iff {ops : Array Oper} {ms : List Nat} {j : Nat} {o : Oper} {l : List Oper} {s : RS} {r : Tr AV × AH} (h : (regB P B WB nt call ops ms (o :: l) j).f s = some r) :
    ∃ s' b v, StepR P B WB nt call ops ms j o s s' b v ∧ (regB P B WB nt call ops ms l (j + 1)).f s' = some r := by
  rw [regB_cons] at h
  split at h
  · rename_i hg
    obtain ⟨s', v, h1, h2⟩ := regStep_iff (ops := ops) (by simp [wantE, hg]) h
    exact ⟨s', true, v, h1, h2⟩
  · obtain ⟨b, h1, h2⟩ := bindO_some_iff.1 h
    cases b
    · simp only [cond_false] at h2
      obtain ⟨E', h3, h4⟩ := put_iff h2
      refine ⟨_, false, .undef, ?_, h4⟩; exact ⟨h1, h3, .skip rfl rfl rfl rfl rfl⟩
    · simp only [cond_true] at h2
      obtain ⟨s', v, h3, h4⟩ := regStep_iff h1 h2
      exact ⟨s', true, v, h3, h4⟩

theorem trace {ops : Array Oper} {ms : List Nat} {r : Tr AV × AH} : ∀ (l : List Oper) (j : Nat) (s : RS), (regB P B WB nt call ops ms l j).f s = some r →
    ∃ (st : Nat → RS) (bs : Nat → Bool) (vs : Nat → AV), st j = s ∧ (∀ i o, l[i]? = some o → StepR P B WB nt call ops ms (j + i) o (st (j + i)) (st (j + i + 1)) (bs (j + i)) (vs (j + i))) ∧
      r = ((st (j + l.length)).E, allPend (st (j + l.length)).pend (st (j + l.length)).H)
  | [], j, s, h => by
    have h' : some (s.E, allPend s.pend s.H) = some r := h
    simp only [Option.some.injEq] at h'
    exact ⟨fun _ => s, fun _ => false, fun _ => .undef, rfl, fun i o hi => by simp at hi, by rw [← h']⟩
  | o :: l, j, s, h => by
    obtain ⟨s', b, v, h1, h2⟩ := regB_iff h
    obtain ⟨st, bs, vs, h3, h4, h5⟩ := trace l (j + 1) s' h2
    refine ⟨fun i => if i = j then s else st i, fun i => if i = j then b else bs i, fun i => if i = j then v else vs i, by simp, fun i o' hi => ?_, ?_⟩
    · cases i with
      | zero =>
        simp at hi; subst hi
        have : ¬ (j + 0 + 1 = j) := by omega
        simp only [Nat.add_zero, if_true]
        rw [if_neg (by omega), h3]
        exact h1
      | succ i =>
        have h6 := h4 i o' (by simpa using hi)
        rw [show j + 1 + i = j + (i + 1) by omega] at h6
        simp only
        rw [if_neg (by omega), if_neg (by omega), if_neg (by omega), if_neg (by omega)]
        exact h6
    · simp only [List.length_cons]
      rw [if_neg (by omega), h5, show j + 1 + l.length = j + (l.length + 1) by omega]

theorem withPend_next (m : Nat) : ∀ (p : Pend) (H : AH), (withPend m p H).next = H.next
  | [], _ => rfl
  | (i, id, o) :: p, H => by
    simp only [withPend]
    cases hasBit m i
    · exact withPend_next m p H
    · simp only [cond_true, Tr.setK_set]
      exact withPend_next m p _

theorem withPend_get (m : Nat) : ∀ (p : Pend) (H : AH) (b : Nat) (o : AObj), (withPend m p H).m.get b = some o → H.m.get b = some o ∨ ∃ i, (i, b, o) ∈ p ∧ hasBit m i = true
  | [], _, _, _, h => .inl h
  | (i, id, q) :: p, H, b, o, h => by
    simp only [withPend] at h
    cases hb : hasBit m i
    · rw [hb] at h
      rcases withPend_get m p H b o h with h1 | ⟨k, h1, h2⟩
      · exact .inl h1
      · exact .inr ⟨k, List.mem_cons_of_mem _ h1, h2⟩
    · rw [hb] at h
      simp only [cond_true, Tr.setK_set] at h
      rcases withPend_get m p _ b o h with h1 | ⟨k, h1, h2⟩
      · have h1' : (H.m.set id (some q)).get b = some o := h1
        rw [Tr.get_set] at h1'
        split at h1'
        · rename_i he
          simp only [Option.some.injEq] at h1'; subst h1'; subst he
          exact .inr ⟨i, List.mem_cons_self, hb⟩
        · exact .inl h1'
      · exact .inr ⟨k, List.mem_cons_of_mem _ h1, h2⟩

theorem allPend_next : ∀ (p : Pend) (H : AH), (allPend p H).next = H.next
  | [], _ => rfl
  | (i, id, o) :: p, H => by
    simp only [allPend, Tr.setK_set]
    exact allPend_next p _

theorem allPend_get : ∀ (p : Pend) (H : AH) (b : Nat) (o : AObj), (allPend p H).m.get b = some o → H.m.get b = some o ∨ ∃ i, (i, b, o) ∈ p
  | [], _, _, _, h => .inl h
  | (i, id, q) :: p, H, b, o, h => by
    simp only [allPend, Tr.setK_set] at h
    rcases allPend_get p _ b o h with h1 | ⟨k, h1⟩
    · have h1' : (H.m.set id (some q)).get b = some o := h1
      rw [Tr.get_set] at h1'
      split at h1'
      · rename_i he
        simp only [Option.some.injEq] at h1'; subst h1'; subst he
        exact .inr ⟨i, List.mem_cons_self⟩
      · exact .inl h1'
    · exact .inr ⟨k, List.mem_cons_of_mem _ h1⟩

theorem restPend_mem (m : Nat) : ∀ (p : Pend) (x : Nat × Nat × AObj), x ∈ restPend m p → x ∈ p ∧ hasBit m x.1 = false
  | [], _, h => by simp [restPend] at h
  | (i, id, o) :: p, x, h => by
    simp only [restPend] at h
    cases hb : hasBit m i
    · rw [hb] at h
      simp only [cond_false, List.mem_cons] at h
      rcases h with rfl | h
      · exact ⟨List.mem_cons_self, hb⟩
      · have := restPend_mem m p x h
        exact ⟨List.mem_cons_of_mem _ this.1, this.2⟩
    · rw [hb] at h
      have := restPend_mem m p x h
      exact ⟨List.mem_cons_of_mem _ this.1, this.2⟩

theorem readsSame_mem {m : Nat} {pend : Pend} {ms : List Nat} {H : AH} : ∀ {l : Reads}, readsSame P B m pend ms H l = true → ∀ x ∈ l, hasBit m x.1 = true ∨
    (readB P B x.2.1).f x.2.2.1 (withPend (ms.getD x.1 0) pend H) = some x.2.2.2
  | [], _, x, hx => by simp at hx
  | (i, o, E, v) :: l, h, x, hx => by
    simp only [readsSame, Bool.and_eq_true, Bool.or_eq_true] at h
    rcases List.mem_cons.1 hx with rfl | hx
    · rcases h.1 with h1 | h1
      · exact .inl h1
      · exact .inr (sameO_eq h1)
    · exact readsSame_mem h.2 x hx
theorem histSame_mem {m : Nat} {pend : Pend} {E : Tr AV} {o : Op} {v : AV} : ∀ {l : Hist}, histSame P B m pend E o v l = true → ∀ x ∈ l, hasBit m x.1 = true ∨
    (readB P B o).f E (withPend m pend x.2) = some v
  | [], _, x, hx => by simp at hx
  | (k, H) :: l, h, x, hx => by
    simp only [histSame, Bool.and_eq_true, Bool.or_eq_true] at h
    rcases List.mem_cons.1 hx with rfl | hx
    · rcases h.1 with h1 | h1
      · exact .inl h1
      · exact .inr (sameO_eq h1)
    · exact histSame_mem h.2 x hx

/-! The trace's laws. -/
section
variable {ops : Array Oper} {ms : List Nat} {st : Nat → RS} {bs : Nat → Bool} {vs : Nat → AV}

/-- The whole trace. -/
def Trc (P : Program) (B WB nt : Nat) (call : FuncId → List AV → AH → Res) (ops : Array Oper) (ms : List Nat) (st : Nat → RS) (bs : Nat → Bool) (vs : Nat → AV) : Prop :=
  ∀ i o, ops[i]? = some o → StepR P B WB nt call ops ms i o (st i) (st (i + 1)) (bs i) (vs i)

def IsChain (P : Program) (ops : Array Oper) (bs : Nat → Bool) (k : Nat) : Prop := ∃ o, ops[k]? = some o ∧ bs k = true ∧ clsE P o.op = .chain
def IsRead (P : Program) (ops : Array Oper) (bs : Nat → Bool) (k : Nat) : Prop := ∃ o, ops[k]? = some o ∧ bs k = true ∧ clsE P o.op = .read
def AR (P : Program) (B : Nat) (ops : Array Oper) (st : Nat → RS) (bs : Nat → Bool) (i id : Nat) (q : AObj) : Prop :=
  ∃ o m, ops[i]? = some o ∧ bs i = true ∧ clsE P o.op = .alloc ∧ (allocB P B o.op).f (st i).E = some m ∧ id = (st i).H.next ∧ q = m.2

theorem Trc.step_next (ht : Trc P B WB nt call ops ms st bs vs) (hc : ∀ f args H r, call f args H = some r → H.next ≤ r.2.next) {i : Nat} {o : Oper} (ho : ops[i]? = some o) :
    (st i).H.next ≤ (st (i + 1)).H.next := by
  have h := (ht i o ho).kind
  generalize bs i = b at h
  cases h with
  | skip _ h1 => rw [h1]; exact Nat.le_refl _
  | pure _ _ h1 => rw [h1]; exact Nat.le_refl _
  | read _ _ _ h1 => rw [h1]; exact Nat.le_refl _
  | alloc m _ _ _ h1 => rw [h1]; exact Nat.le_succ _
  | chain _ _ h1 =>
    have := chainB_next hc h1
    rw [withPend_next] at this
    exact this

theorem Trc.next_le (ht : Trc P B WB nt call ops ms st bs vs) (hc : ∀ f args H r, call f args H = some r → H.next ≤ r.2.next) {i : Nat} : ∀ (d : Nat), i + d ≤ ops.size →
    (st i).H.next ≤ (st (i + d)).H.next
  | 0, _ => Nat.le_refl _
  | d + 1, h => by
    have h1 := Trc.next_le ht hc d (by omega : i + d ≤ ops.size)
    have h2 := ht.step_next hc (i := i + d) (Array.getElem?_eq_getElem (by omega))
    exact Nat.le_trans h1 h2

theorem Trc.mono (ht : Trc P B WB nt call ops ms st bs vs) (hc : ∀ f args H r, call f args H = some r → H.next ≤ r.2.next) {i j : Nat} (hij : i ≤ j) (hj : j ≤ ops.size) :
    (st i).H.next ≤ (st j).H.next := by
  obtain ⟨d, rfl⟩ := Nat.le.dest hij
  exact ht.next_le hc d hj

/-- Only operations that write turn the memory. -/
theorem Trc.m_same (ht : Trc P B WB nt call ops ms st bs vs) {i : Nat} : ∀ (d : Nat), i + d ≤ ops.size → (∀ k, i ≤ k → k < i + d → ¬ IsChain P ops bs k) → (st (i + d)).H.m = (st i).H.m
  | 0, _, _ => rfl
  | d + 1, h, hk => by
    have h1 := Trc.m_same ht (i := i) d (by omega) (fun k h1 h2 => hk k h1 (by omega))
    obtain ⟨o, ho⟩ : ∃ o, ops[i + d]? = some o := ⟨_, Array.getElem?_eq_getElem (by omega)⟩
    have hno := hk (i + d) (by omega) (by omega)
    have h2 := (ht (i + d) o ho).kind
    rw [← h1]
    show (st (i + d + 1)).H.m = _
    generalize hb : bs (i + d) = b at h2
    cases h2 with
    | skip _ h3 => rw [h3]
    | pure _ _ h3 => rw [h3]
    | read _ _ _ h3 => rw [h3]
    | alloc m _ _ _ h3 => rw [h3]
    | chain h3 => exact absurd ⟨o, ho, hb, h3⟩ hno

/-- What is pending: blocks made, that no operation that writes has met. -/
theorem Trc.pend (ht : Trc P B WB nt call ops ms st bs vs) (h0 : (st 0).pend = []) : ∀ (j : Nat), j ≤ ops.size → ∀ i id q, (i, id, q) ∈ (st j).pend →
    AR P B ops st bs i id q ∧ i < j ∧ ∀ k, k < j → IsChain P ops bs k → hasBit (ms.getD k 0) i = false ∨ k < i
  | 0, _, i, id, q, h => by rw [h0] at h; cases h
  | j + 1, hj, i, id, q, h => by
    have ih := Trc.pend ht h0 j (by omega)
    obtain ⟨o, ho⟩ : ∃ o, ops[j]? = some o := ⟨_, Array.getElem?_eq_getElem (by omega)⟩
    have h2 := (ht j o ho).kind
    have old : (i, id, q) ∈ (st j).pend → (¬ IsChain P ops bs j) → AR P B ops st bs i id q ∧ i < j + 1 ∧ ∀ k, k < j + 1 → IsChain P ops bs k → hasBit (ms.getD k 0) i = false ∨ k < i := by
      intro h3 hn
      obtain ⟨h4, h5, h6⟩ := ih i id q h3
      refine ⟨h4, by omega, fun k hk hch => ?_⟩
      rcases Nat.lt_or_ge k j with hk | hk
      · exact h6 k hk hch
      · have : k = j := by omega
        subst this
        exact absurd hch hn
    generalize hb : bs j = b at h2
    cases h2 with
    | skip _ _ h3 => rw [h3] at h; exact old h (fun ⟨o', _, hb', _⟩ => by rw [hb] at hb'; cases hb')
    | pure hcl _ _ h3 => rw [h3] at h; exact old h (fun ⟨o', ho', _, hc'⟩ => by rw [ho] at ho'; cases ho'; rw [hcl] at hc'; cases hc')
    | read hcl _ _ _ h3 => rw [h3] at h; exact old h (fun ⟨o', ho', _, hc'⟩ => by rw [ho] at ho'; cases ho'; rw [hcl] at hc'; cases hc')
    | alloc m hcl hm hv _ h3 =>
      rw [h3] at h
      have hn : ¬ IsChain P ops bs j := fun ⟨o', ho', _, hc'⟩ => by rw [ho] at ho'; cases ho'; rw [hcl] at hc'; cases hc'
      rcases List.mem_cons.1 h with h4 | h4
      · cases h4
        refine ⟨⟨o, m, ho, hb, hcl, hm, rfl, rfl⟩, by omega, fun k hk hch => ?_⟩
        rcases Nat.lt_or_ge k j with hk' | hk'
        · exact .inr hk'
        · have : k = j := by omega
          subst this
          exact absurd hch hn
      · exact old h4 hn
    | chain hcl _ _ _ h3 =>
      rw [h3] at h
      obtain ⟨h4, h5⟩ := restPend_mem _ _ _ h
      obtain ⟨h6, h7, h8⟩ := ih i id q h4
      refine ⟨h6, by omega, fun k hk hch => ?_⟩
      rcases Nat.lt_or_ge k j with hk | hk
      · exact h8 k hk hch
      · have : k = j := by omega
        subst this
        exact .inl h5

theorem Trc.hist (ht : Trc P B WB nt call ops ms st bs vs) : ∀ (j : Nat), j ≤ ops.size → ∀ k, k < j → IsChain P ops bs k → (k, (st k).H) ∈ (st j).hist
  | 0, _, k, hk, _ => by omega
  | j + 1, hj, k, hk, hch => by
    obtain ⟨o, ho⟩ : ∃ o, ops[j]? = some o := ⟨_, Array.getElem?_eq_getElem (by omega)⟩
    have h2 := (ht j o ho).kind
    have old : k ≠ j → (k, (st k).H) ∈ (st j).hist := fun hne => Trc.hist ht j (by omega) k (by omega) hch
    have hne : ¬ IsChain P ops bs j → k ≠ j := fun hn e => hn (e ▸ hch)
    generalize hb : bs j = b at h2
    cases h2 with
    | skip _ _ _ _ h3 => rw [h3]; exact old (hne (fun ⟨o', _, hb', _⟩ => by rw [hb] at hb'; cases hb'))
    | pure hcl _ _ _ _ h3 => rw [h3]; exact old (hne (fun ⟨o', ho', _, hc'⟩ => by rw [ho] at ho'; cases ho'; rw [hcl] at hc'; cases hc'))
    | read hcl _ _ _ _ _ h3 => rw [h3]; exact old (hne (fun ⟨o', ho', _, hc'⟩ => by rw [ho] at ho'; cases ho'; rw [hcl] at hc'; cases hc'))
    | alloc m hcl _ _ _ _ _ h3 => rw [h3]; exact old (hne (fun ⟨o', ho', _, hc'⟩ => by rw [ho] at ho'; cases ho'; rw [hcl] at hc'; cases hc'))
    | chain _ _ _ _ _ _ h3 =>
      rw [h3]
      by_cases he : k = j
      · subst he; exact List.mem_cons_self
      · exact List.mem_cons_of_mem _ (old he)

theorem Trc.reads (ht : Trc P B WB nt call ops ms st bs vs) : ∀ (j : Nat), j ≤ ops.size → ∀ i o, i < j → ops[i]? = some o → bs i = true → clsE P o.op = .read → (i, o.op, (st i).E, vs i) ∈ (st j).reads
  | 0, _, i, _, hi, _, _, _ => by omega
  | j + 1, hj, i, o, hi, ho, hb, hcl => by
    obtain ⟨o2, ho2⟩ : ∃ o, ops[j]? = some o := ⟨_, Array.getElem?_eq_getElem (by omega)⟩
    have h2 := (ht j o2 ho2).kind
    have old : i ≠ j → (i, o.op, (st i).E, vs i) ∈ (st j).reads := fun hne => Trc.reads ht j (by omega) i o (by omega) ho hb hcl
    have hne : (∀ o', ops[j]? = some o' → bs j = true → clsE P o'.op = .read → False) → i ≠ j := fun hn e => by subst e; exact hn o ho hb hcl
    generalize hb2 : bs j = b at h2
    cases h2 with
    | skip _ _ _ h3 => rw [h3]; exact old (hne fun o' _ hb' _ => by rw [hb2] at hb'; cases hb')
    | pure hc _ _ _ h3 => rw [h3]; exact old (hne fun o' ho' _ hc' => by rw [ho2] at ho'; cases ho'; rw [hc] at hc'; cases hc')
    | read _ _ _ _ _ h3 =>
      rw [h3]
      by_cases he : i = j
      · subst he
        rw [ho] at ho2; cases ho2
        exact List.mem_cons_self
      · exact List.mem_cons_of_mem _ (old he)
    | alloc m hc _ _ _ _ h3 => rw [h3]; exact old (hne fun o' ho' _ hc' => by rw [ho2] at ho'; cases ho'; rw [hc] at hc'; cases hc')
    | chain hc _ _ _ _ h3 => rw [h3]; exact old (hne fun o' ho' _ hc' => by rw [ho2] at ho'; cases ho'; rw [hc] at hc'; cases hc')

/-- The last operation that wrote. -/
theorem Trc.lastHist (ht : Trc P B WB nt call ops ms st bs vs) (h0 : (st 0).hist = []) : ∀ (j : Nat), j ≤ ops.size →
    ((st j).hist = [] ∧ ∀ k, k < j → ¬ IsChain P ops bs k) ∨ ∃ k Hk l, (st j).hist = (k, Hk) :: l ∧ k < j ∧ IsChain P ops bs k ∧ ∀ k', k < k' → k' < j → ¬ IsChain P ops bs k'
  | 0, _ => .inl ⟨h0, fun k hk => by omega⟩
  | j + 1, hj => by
    obtain ⟨o, ho⟩ : ∃ o, ops[j]? = some o := ⟨_, Array.getElem?_eq_getElem (by omega)⟩
    have h2 := (ht j o ho).kind
    have ih := Trc.lastHist ht h0 j (by omega)
    have keep : (st (j + 1)).hist = (st j).hist → ¬ IsChain P ops bs j → ((st (j + 1)).hist = [] ∧ ∀ k, k < j + 1 → ¬ IsChain P ops bs k) ∨ ∃ k Hk l, (st (j + 1)).hist = (k, Hk) :: l ∧ k < j + 1 ∧ IsChain P ops bs k ∧ ∀ k', k < k' → k' < j + 1 → ¬ IsChain P ops bs k' := by
      intro he hn
      rw [he]
      rcases ih with ⟨h3, h4⟩ | ⟨k, Hk, l, h3, h4, h5, h6⟩
      · refine .inl ⟨h3, fun k hk => ?_⟩
        by_cases e : k = j
        · subst e; exact hn
        · exact h4 k (by omega)
      · refine .inr ⟨k, Hk, l, h3, by omega, h5, fun k' h7 h8 => ?_⟩
        by_cases e : k' = j
        · subst e; exact hn
        · exact h6 k' h7 (by omega)
    generalize hb : bs j = b at h2
    cases h2 with
    | skip _ _ _ _ h3 => exact keep h3 (fun ⟨o', _, hb', _⟩ => by rw [hb] at hb'; cases hb')
    | pure hcl _ _ _ _ h3 => exact keep h3 (fun ⟨o', ho', _, hc'⟩ => by rw [ho] at ho'; cases ho'; rw [hcl] at hc'; cases hc')
    | read hcl _ _ _ _ _ h3 => exact keep h3 (fun ⟨o', ho', _, hc'⟩ => by rw [ho] at ho'; cases ho'; rw [hcl] at hc'; cases hc')
    | alloc m hcl _ _ _ _ _ h3 => exact keep h3 (fun ⟨o', ho', _, hc'⟩ => by rw [ho] at ho'; cases ho'; rw [hcl] at hc'; cases hc')
    | chain hcl _ _ _ _ _ h3 => exact .inr ⟨j, _, _, h3, by omega, ⟨o, ho, hb, hcl⟩, fun k' h7 h8 => by omega⟩
end
end
end Go.Ev
