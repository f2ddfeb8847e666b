/- Regions whose order is drawn: what holds at every set of operations that have gone. -/
import Derived.Test.YtigfokpgohaniaaGreatDoorEvSF2
namespace Go.Ev
open Go

/-! Two tries, one over the other; a part of a trie. -/
section
variable {α : Type}
def Tr.over : Tr α → Tr α → Tr α
  | .nil, t => t
  | .node a l r, .nil => .node a l r
  | .node a l r, .node b l' r' => .node (a.or b) (Tr.over l l') (Tr.over r r')
theorem Tr.over_get : ∀ (s t : Tr α) (n : Nat), (Tr.over s t).get n = (s.get n).or (t.get n)
  | .nil, t, n => by simp [Tr.over, Tr.get_nil]
  | .node a l r, .nil, n => by simp [Tr.over, Tr.get_nil]
  | .node a l r, .node b l' r', 0 => by simp [Tr.over, Tr.get_zero]
  | .node a l r, .node b l' r', m + 1 => by
    simp only [Tr.over, Tr.get_succ]
    cases Nat.beq (m % 2) 0
    · exact Tr.over_get r r' (m / 2)
    · exact Tr.over_get l l' (m / 2)

theorem Tr.part : ∀ (t : Tr α) (X : Nat → Prop), ∃ s : Tr α, ∀ n, (X n → s.get n = t.get n) ∧ (¬ X n → s.get n = none)
  | .nil, X => ⟨.nil, fun n => ⟨fun _ => rfl, fun _ => rfl⟩⟩
  | .node a l r, X => by
    obtain ⟨l', hl⟩ := Tr.part l (fun n => X (2 * n + 1))
    obtain ⟨r', hr⟩ := Tr.part r (fun n => X (2 * n + 2))
    have hs : ∀ (a' : Option α) m, (X (m + 1) → (Tr.node a' l' r').get (m + 1) = (Tr.node a l r).get (m + 1)) ∧ (¬ X (m + 1) → (Tr.node a' l' r').get (m + 1) = none) := by
      intro a' m
      simp only [Tr.get_succ]
      cases hb : Nat.beq (m % 2) 0
      · have h1 : m % 2 = 1 := by have := Nat.ne_of_beq_eq_false hb; omega
        have h2 : 2 * (m / 2) + 2 = m + 1 := by omega
        have := hr (m / 2)
        rw [h2] at this
        exact this
      · have h1 : m % 2 = 0 := Nat.eq_of_beq_eq_true hb
        have h2 : 2 * (m / 2) + 1 = m + 1 := by omega
        have := hl (m / 2)
        rw [h2] at this
        exact this
    by_cases h0 : X 0
    · refine ⟨.node a l' r', fun n => ?_⟩
      cases n with
      | zero => exact ⟨fun _ => rfl, fun h => absurd h0 h⟩
      | succ m => exact hs a m
    · refine ⟨.node none l' r', fun n => ?_⟩
      cases n with
      | zero => exact ⟨fun h => absurd h h0, fun _ => rfl⟩
      | succ m => exact hs none m
end

section
variable {P : Program} {B WB nt : Nat} {call : FuncId → List AV → AH → Res}
variable {ops : Array Oper} {ms : List Nat}

/-! What 'tempsOk' tells. -/
theorem tempsOk1_spec {m : Nat} {y : Oper} : ∀ {l : List Oper} {i : Nat}, tempsOk1 ops m y i l = true → ∀ k x, l[k]? = some x → apartOk ops (i + k) x m y = true
  | [], _, _, k, x, hx => by simp at hx
  | a :: l, i, h, 0, x, hx => by
    simp only [tempsOk1, Bool.and_eq_true] at h
    simp at hx; subst hx
    exact h.1
  | a :: l, i, h, k + 1, x, hx => by
    simp only [tempsOk1, Bool.and_eq_true] at h
    have := tempsOk1_spec h.2 k x (by simpa using hx)
    rw [show i + 1 + k = i + (k + 1) by omega] at this
    exact this

theorem tempsOk_spec : ∀ (l done : List Oper) (j : Nat), tempsOk ops ms done l j = true → done.length = j → ∀ jj y, j ≤ jj → (done ++ l)[jj]? = some y →
    (∀ i x, i < jj → (done ++ l)[i]? = some x → apartOk ops i x (ms.getD jj 0) y = true) ∧ (∀ e ∈ y.after.toList, Region.binds .any e = true → e.on < jj)
  | [], done, j, _, hl, jj, y, hj, hy => by
    rw [List.append_nil, List.getElem?_eq_none (by omega)] at hy; cases hy
  | z :: l, done, j, h, hl, jj, y, hj, hy => by
    simp only [tempsOk, Bool.and_eq_true] at h
    obtain ⟨⟨⟨h1, h2⟩, _⟩, h4⟩ := h
    by_cases he : jj = j
    · subst he
      have hz : y = z := by
        rw [List.getElem?_append_right (by omega), hl] at hy
        simpa using hy.symm
      subst hz
      refine ⟨fun i x hi hx => ?_, fun e he hb => ?_⟩
      · rw [List.getElem?_append_left (by omega)] at hx
        have := tempsOk1_spec h1 i x hx
        rw [Nat.zero_add] at this
        exact this
      · have h5 := (Array.all_eq_true_iff_forall_mem.1 h2) e (by simpa using he)
        rw [hb] at h5
        simpa [Nat.blt_eq] using h5
    · have := tempsOk_spec l (done ++ [z]) (j + 1) h4 (by simp [hl]) jj y (by omega) (by simpa using hy)
      simpa using this

/-- What stands fast for one region. -/
structure Ctx (P : Program) (B WB nt : Nat) (call : FuncId → List AV → AH → Res) (ops : Array Oper) (ms : List Nat) (st : Nat → RS) (bs : Nat → Bool) (vs : Nat → AV)
    (D0 : Nat → Prop) (H0 : AH) : Prop where
  ht : Trc P B WB nt call ops ms st bs vs
  hc : CallOk P B WB call
  s0H : (st 0).H = H0
  s0p : (st 0).pend = []
  s0h : (st 0).hist = []
  apart : ∀ i j x y, i < j → ops[i]? = some x → ops[j]? = some y → hasBit (ms.getD j 0) i = true ∨
    ((∀ d, x.dst = some d → d ∉ namesOf ops y) ∧ (∀ d, y.dst = some d → d ∉ namesOf ops x))
  back : ∀ j y e, ops[j]? = some y → e ∈ y.after.toList → Region.binds .any e = true → e.on < j
  spec : ∀ j y i, ops[j]? = some y → hasBit (ms.getD j 0) i = true → ∃ e ∈ y.after.toList, Region.binds .any e = true ∧ (e.on = i ∨ hasBit (ms.getD e.on 0) i = true)
  free : Free D0 H0.next (st ops.size).H.next

variable {st : Nat → RS} {bs : Nat → Bool} {vs : Nat → AV} {D0 : Nat → Prop} {H0 : AH}

theorem Ctx.mono (c : Ctx P B WB nt call ops ms st bs vs D0 H0) {i j : Nat} (hij : i ≤ j) (hj : j ≤ ops.size) : (st i).H.next ≤ (st j).H.next := c.ht.mono c.hc.next hij hj

/-- The numbers that two operations give out are apart. -/
theorem Ctx.disj (c : Ctx P B WB nt call ops ms st bs vs D0 H0) {i j b : Nat} (hi : i < ops.size) (hj : j < ops.size) (h1 : (st i).H.next ≤ b) (h2 : b < (st (i + 1)).H.next)
    (h3 : (st j).H.next ≤ b) (h4 : b < (st (j + 1)).H.next) : i = j := by
  rcases Nat.lt_trichotomy i j with h | h | h
  · have := c.mono (i := i + 1) (j := j) h (by omega); omega
  · exact h
  · have := c.mono (i := j + 1) (j := i) h (by omega); omega

theorem lt_size {i : Nat} {o : Oper} (h : ops[i]? = some o) : i < ops.size := (Array.getElem?_eq_some_iff.1 h).1

theorem Ctx.kindAlloc (c : Ctx P B WB nt call ops ms st bs vs D0 H0) {k id : Nat} {q : AObj} (h : AR P B ops st bs k id q) : k < ops.size ∧ (st k).H.next ≤ id ∧ id < (st (k + 1)).H.next := by
  obtain ⟨o, m, ho, hb, hcl, _, hid, _⟩ := h
  have h2 := (c.ht k o ho).kind
  generalize bs k = b at h2 hb
  subst hb
  refine ⟨lt_size ho, by omega, ?_⟩
  cases h2 with
  | pure h => rw [h] at hcl; cases hcl
  | read h => rw [h] at hcl; cases hcl
  | chain h => rw [h] at hcl; cases hcl
  | alloc m _ _ _ h3 => rw [h3, hid]; exact Nat.lt_succ_self _

theorem AR.det {k id id' : Nat} {q q' : AObj} (h : AR P B ops st bs k id q) (h' : AR P B ops st bs k id' q') : id = id' ∧ q = q' := by
  obtain ⟨o, m, ho, hb, hcl, hm, hid, hq⟩ := h
  obtain ⟨o', m', ho', hb', hcl', hm', hid', hq'⟩ := h'
  rw [ho] at ho'; cases ho'
  rw [hm] at hm'; cases hm'
  exact ⟨by omega, by rw [hq, hq']⟩

theorem Ctx.arId (c : Ctx P B WB nt call ops ms st bs vs D0 H0) {k k' id : Nat} {q q' : AObj} (h : AR P B ops st bs k id q) (h' : AR P B ops st bs k' id q') : k = k' := by
  obtain ⟨a1, a2, a3⟩ := c.kindAlloc h
  obtain ⟨b1, b2, b3⟩ := c.kindAlloc h'
  exact c.disj a1 b1 a2 a3 b2 b3

theorem AR.notChain {k id : Nat} {q : AObj} (h : AR P B ops st bs k id q) : ¬ IsChain P ops bs k := by
  obtain ⟨o, m, ho, hb, hcl, _⟩ := h
  rintro ⟨o', ho', _, hc⟩
  rw [ho] at ho'; cases ho'
  rw [hcl] at hc; cases hc

/-- Temporaries that no operation on the way writes. -/
theorem Trc.E_same (ht : Trc P B WB nt call ops ms st bs vs) {i t : Nat} : ∀ (d : Nat), i + d ≤ ops.size → (∀ k o, i ≤ k → k < i + d → ops[k]? = some o → o.dst ≠ some t) → (st (i + d)).E.get t = (st i).E.get t
  | 0, _, _ => rfl
  | d + 1, h, hk => by
    have h1 := Trc.E_same ht (i := i) (t := t) d (by omega) (fun k o h1 h2 => hk k o h1 (by omega))
    obtain ⟨o, ho⟩ : ∃ o, ops[i + d]? = some o := ⟨_, Array.getElem?_eq_getElem (by omega)⟩
    rw [← h1]
    have h2 := hk (i + d) o (by omega) (by omega) ho
    rcases (ht (i + d) o ho).put with ⟨h3, h4⟩ | ⟨u, h3, h4, h5⟩
    · show (st (i + d + 1)).E.get t = _
      rw [h4]
    · show (st (i + d + 1)).E.get t = _
      rw [h5, Tr.get_set, if_neg (fun e => h2 (by rw [h3, e]))]

/-- The memory's part. -/
theorem HR.part {D : Nat → Prop} {ρ : Nat → Nat} {w : World} {H H' : AH} (h : HR B WB D ρ H w) (hs : ∀ b o, H'.m.get b = some o → H.m.get b = some o) (hn : WB ≤ H'.next) : HR B WB D ρ H' w where
  lo := h.lo
  wb := hn
  inj := fun a b ⟨x, hx⟩ ⟨y, hy⟩ e => h.inj a b ⟨x, hs _ _ hx⟩ ⟨y, hs _ _ hy⟩ e
  dom := fun b ⟨x, hx⟩ => h.dom b ⟨x, hs _ _ hx⟩
  obj := fun b o hb => h.obj b o (hs _ _ hb)

/-- What holds when the operations 'L' have gone; of those that write, all ahead of 'T'. -/
structure St (P : Program) (B WB nt : Nat) (ops : Array Oper) (ms : List Nat) (st : Nat → RS) (bs : Nat → Bool) (D0 : Nat → Prop) (ρ0 : Nat → Nat) (H0 : AH) (w0 : World) (df : List Deferred)
    (L : Nat → Prop) (T : Nat) (D : Nat → Prop) (ρ : Nat → Nat) (M : Tr AObj) (EL : Tr AV) (a : Act) (w : World) : Prop where
  cl : ∀ j, L j → ∀ i, hasBit (ms.getD j 0) i = true → L i
  ch : ∀ k, IsChain P ops bs k → (L k ↔ k < T)
  tn : T ≤ ops.size
  hr : HR B WB D ρ ⟨M, (st ops.size).H.next⟩ w
  stp : Stp WB D0 ρ0 H0 w0 D ρ ⟨M, (st ops.size).H.next⟩ w
  er : ER nt D ρ w.shape? EL a
  env : ∀ t j, j ≤ ops.size → (∀ i o, ops[i]? = some o → o.dst = some t → (i < j ↔ L i)) → EL.get t = (st j).E.get t
  sub : ∀ b o, (st T).H.m.get b = some o → M.get b = some o
  away : ∀ k id q, AR P B ops st bs k id q → (∀ c, c < T → IsChain P ops bs c → hasBit (ms.getD c 0) k = false ∨ c < k) → (st T).H.m.get id = none
  pend : ∀ k id q, AR P B ops st bs k id q → L k → (∀ c, c < T → IsChain P ops bs c → hasBit (ms.getD c 0) k = false ∨ c < k) → M.get id = some q
  ids : ∀ b, D b → D0 b ∨ ∃ i, L i ∧ i < ops.size ∧ (st i).H.next ≤ b ∧ b < (st (i + 1)).H.next
  dfs : a.defers = df

section
variable {ρ0 : Nat → Nat} {w0 : World} {df : List Deferred} {L : Nat → Prop} {T : Nat} {D : Nat → Prop} {ρ : Nat → Nat} {M : Tr AObj} {EL : Tr AV} {a : Act} {w : World}

/-- What an operation that is next looks at. -/
theorem St.looks (c : Ctx P B WB nt call ops ms st bs vs D0 H0) (s : St P B WB nt ops ms st bs D0 ρ0 H0 w0 df L T D ρ M EL a w) {i : Nat} {o : Oper} (ho : ops[i]? = some o)
    (hn : ¬ L i) (hr : ∀ k, hasBit (ms.getD i 0) k = true → L k) : ∀ t ∈ o.looksAt ops, EL.get t = (st i).E.get t := by
  intro t ht
  refine s.env t i (Nat.le_of_lt (lt_size ho)) fun k x hk hd => ?_
  have htn : t ∈ namesOf ops o := by simp [namesOf, ht]
  rcases Nat.lt_trichotomy k i with h | h | h
  · refine ⟨fun _ => ?_, fun _ => h⟩
    rcases c.apart k i x o h hk ho with h1 | ⟨h1, _⟩
    · exact hr k h1
    · exact absurd htn (h1 t hd)
  · subst h
    exact ⟨fun h => absurd h (Nat.lt_irrefl _), fun h => absurd h hn⟩
  · refine ⟨fun h' => absurd h' (by omega), fun hl => ?_⟩
    rcases c.apart i k o x h ho hk with h1 | ⟨_, h1⟩
    · exact absurd (s.cl k hl i h1) hn
    · exact absurd htn (h1 t hd)

theorem St.freeAt (c : Ctx P B WB nt call ops ms st bs vs D0 H0) (s : St P B WB nt ops ms st bs D0 ρ0 H0 w0 df L T D ρ M EL a w) {i : Nat} (hi : i < ops.size) (hn : ¬ L i) :
    Free D (st i).H.next (st (i + 1)).H.next := by
  intro b hb hh
  rcases s.ids b hb with h | ⟨j, h1, h2, h3, h4⟩
  · have h5 := c.mono (Nat.zero_le i) (Nat.le_of_lt hi)
    have h6 := c.mono (i := i + 1) (j := ops.size) hi (Nat.le_refl _)
    rw [c.s0H] at h5
    exact c.free b h ⟨by omega, by omega⟩
  · have := c.disj hi h2 hh.1 hh.2 h3 h4
    subst this
    exact hn h1

theorem St.wbAt (c : Ctx P B WB nt call ops ms st bs vs D0 H0) (hw : WB ≤ H0.next) {i : Nat} (hi : i ≤ ops.size) : WB ≤ (st i).H.next := by
  have h5 := c.mono (Nat.zero_le i) hi
  rw [c.s0H] at h5
  omega

/-- The states joined. -/
theorem Stp.join {D1 : Nat → Prop} {ρ1 : Nat → Nat} {M1 : Tr AObj} {w1 : World} {lo hi nx : Nat} (hd1 : ∀ b, Live H0 b → D0 b) (hd2 : ∀ b, Live ⟨M, nx⟩ b → D b)
    (s : Stp WB D0 ρ0 H0 w0 D ρ ⟨M, nx⟩ w) (t : Stp WB D ρ ⟨M, lo⟩ w D1 ρ1 ⟨M1, hi⟩ w1) (h1 : H0.next ≤ lo) (h2 : hi ≤ nx) : Stp WB D0 ρ0 H0 w0 D1 ρ1 ⟨M1, nx⟩ w1 where
  d := fun b h => t.d b (s.d b h)
  r := fun b h => (t.r b (s.d b h)).trans (s.r b h)
  fresh := fun b h => by
    rcases t.fresh b h with h | ⟨h3, h4⟩
    · exact s.fresh b h
    · exact .inr ⟨Nat.le_trans h1 h3, Nat.lt_of_lt_of_le h4 h2⟩
  next := s.next
  size := Nat.le_trans s.size t.size
  shp := fun r x h => t.shp r x (s.shp r x h)
  os := t.os.trans s.os
  tape := t.tape.trans s.tape
  output := t.output.trans s.output
  frame := fun r hr h => by
    rw [t.frame r (Nat.lt_of_lt_of_le hr s.size) ?_, s.frame r hr h]
    intro b hb hwb e
    rcases s.img b hb with hl | ⟨h1, h2 | ⟨a, ha, hwa, he⟩⟩
    · exact h b hl hwb ((s.r b (hd1 b hl)).symm.trans e)
    · omega
    · exact h a ha hwa (he.symm.trans e)
  img := fun b hb => by
    rcases t.img b hb with hl | ⟨h3, h4⟩
    · rcases s.img b hl with hl' | ⟨h3, h4⟩
      · exact .inl hl'
      · refine .inr ⟨h3, ?_⟩
        rw [t.r b (hd2 b hl)]
        exact h4
    · refine .inr ⟨Nat.le_trans h1 h3, ?_⟩
      rcases h4 with h4 | ⟨a, ha, hwa, he⟩
      · exact .inl (Nat.le_trans s.size h4)
      · rcases s.img a ha with hl | ⟨h5, h6⟩
        · exact .inr ⟨a, hl, hwa, by rw [he]; exact s.r a (hd1 a hl)⟩
        · rw [he]; exact h6

/-- One operation more. -/
theorem St.more (c : Ctx P B WB nt call ops ms st bs vs D0 H0) (hd0 : ∀ b, Live H0 b → D0 b) (s : St P B WB nt ops ms st bs D0 ρ0 H0 w0 df L T D ρ M EL a w) {i : Nat} {o : Oper} (ho : ops[i]? = some o)
    (hn : ¬ L i) (hr : ∀ k, hasBit (ms.getD i 0) k = true → L k)
    {T' : Nat} {D' : Nat → Prop} {ρ' : Nat → Nat} {M' : Tr AObj} {w' : World} {v' : Value}
    (ch : ∀ k, IsChain P ops bs k → ((L k ∨ k = i) ↔ k < T')) (tn : T' ≤ ops.size)
    (hr' : HR B WB D' ρ' ⟨M', (st (i + 1)).H.next⟩ w') (stp : Stp WB D ρ ⟨M, (st i).H.next⟩ w D' ρ' ⟨M', (st (i + 1)).H.next⟩ w') (hv : VR D' ρ' w'.shape? (vs i) v')
    (sub : ∀ b o, (st T').H.m.get b = some o → M'.get b = some o)
    (away : ∀ k id q, AR P B ops st bs k id q → (∀ c, c < T' → IsChain P ops bs c → hasBit (ms.getD c 0) k = false ∨ c < k) → (st T').H.m.get id = none)
    (pend : ∀ k id q, AR P B ops st bs k id q → (L k ∨ k = i) → (∀ c, c < T' → IsChain P ops bs c → hasBit (ms.getD c 0) k = false ∨ c < k) → M'.get id = some q) :
    ∃ EL', St P B WB nt ops ms st bs D0 ρ0 H0 w0 df (fun k => L k ∨ k = i) T' D' ρ' M' EL' (a.put o.dst v') w' := by
  have hi := lt_size ho
  have hnx := c.mono (i := i + 1) (j := ops.size) hi (Nat.le_refl _)
  have hlo := c.mono (Nat.zero_le i) (Nat.le_of_lt hi)
  rw [c.s0H] at hlo
  have he := s.er.grow stp.grow
  have cl : ∀ j, (L j ∨ j = i) → ∀ k, hasBit (ms.getD j 0) k = true → (L k ∨ k = i) := by
    intro j hj k hk
    rcases hj with hj | rfl
    · exact .inl (s.cl j hj k hk)
    · exact .inl (hr k hk)
  have hr2 : HR B WB D' ρ' ⟨M', (st ops.size).H.next⟩ w' := hr'.part (fun _ _ h => h) (Nat.le_trans hr'.wb hnx)
  have stp2 : Stp WB D0 ρ0 H0 w0 D' ρ' ⟨M', (st ops.size).H.next⟩ w' := Stp.join hd0 s.hr.dom s.stp stp hlo hnx
  have ids : ∀ b, D' b → D0 b ∨ ∃ k, (L k ∨ k = i) ∧ k < ops.size ∧ (st k).H.next ≤ b ∧ b < (st (k + 1)).H.next := by
    intro b hb
    rcases stp.fresh b hb with h | ⟨h1, h2⟩
    · rcases s.ids b h with h | ⟨k, h1, h2⟩
      · exact .inl h
      · exact .inr ⟨k, .inl h1, h2⟩
    · exact .inr ⟨i, .inr rfl, hi, h1, h2⟩
  have hput := (c.ht i o ho).put
  rcases hput with ⟨h1, h2⟩ | ⟨d, h1, h2, h3⟩
  · refine ⟨EL, cl, ch, tn, hr2, stp2, by rw [h1]; exact he, fun t j hj hk => ?_, sub, away, pend, ids, by rw [put_defers']; exact s.dfs⟩
    refine s.env t j hj fun k x hx hd => ?_
    have hki : k ≠ i := by
      intro e; subst e
      rw [ho] at hx; cases hx
      rw [h1] at hd; cases hd
    have := hk k x hx hd
    simpa [hki] using this
  · refine ⟨EL.set d (some (vs i)), cl, ch, tn, hr2, stp2, by rw [h1]; exact he.put h2 hv, fun t j hj hk => ?_, sub, away, pend, ids, by rw [put_defers']; exact s.dfs⟩
    rw [Tr.get_set]
    by_cases htd : t = d
    · subst htd
      rw [if_pos rfl]
      have hij : i < j := (hk i o ho h1).2 (.inr rfl)
      obtain ⟨e, rfl⟩ : ∃ e, j = i + 1 + e := ⟨j - (i + 1), by omega⟩
      rw [c.ht.E_same (i := i + 1) e hj ?_, h3, Tr.get_set, if_pos rfl]
      intro k x h4 h5 hx hd
      have hl : L k := by
        rcases (hk k x hx hd).1 h5 with h | h
        · exact h
        · omega
      rcases c.apart i k o x (by omega) ho hx with h6 | ⟨h6, _⟩
      · exact hn (s.cl k hl i h6)
      · exact absurd (by simp [namesOf, hd]) (h6 t h1)
    · rw [if_neg htd]
      refine s.env t j hj fun k x hx hd => ?_
      have hki : k ≠ i := by
        intro e; subst e
        rw [ho] at hx; cases hx
        rw [h1] at hd; cases hd
        exact htd rfl
      have := hk k x hx hd
      simpa [hki] using this
end
end
end Go.Ev
