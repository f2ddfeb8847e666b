/- Regions whose order is drawn: one operation more, whichever is next. -/
import Derived.Test.YtigfokpgohaniaaGreatDoorEvSF3
namespace Go.Ev
open Go
section
variable {P : Program} {B WB nt : Nat} {call : FuncId → List AV → AH → Res}
variable {ops : Array Oper} {ms : List Nat} {st : Nat → RS} {bs : Nat → Bool} {vs : Nat → AV} {D0 : Nat → Prop} {H0 : AH}
variable {ρ0 : Nat → Nat} {w0 : World} {df : List Deferred} {L : Nat → Prop} {T : Nat} {D : Nat → Prop} {ρ : Nat → Nat} {M : Tr AObj} {EL : Tr AV} {a : Act} {w : World}

theorem tmp_looks {o : Oper} {t : Tmp} (h : Operand.tmp t ∈ o.op.operands) : t ∈ o.looksAt ops := by
  unfold Oper.looksAt
  refine List.mem_append.2 (.inl ?_)
  rw [List.mem_filterMap]
  exact ⟨.tmp t, by simpa using h, rfl⟩

theorem agree_looks {o : Oper} {E E' : Tr AV} (h : ∀ t ∈ o.looksAt ops, E.get t = E'.get t) : Agree o.op E E' := fun t ht => h t (tmp_looks ht)

theorem wantE_congr {o : Oper} {E E' : Tr AV} (h : ∀ t ∈ o.looksAt ops, E.get t = E'.get t) : (wantE ops o).f E = (wantE ops o).f E' := by
  unfold wantE
  split
  · rfl
  · rename_i j want hg
    split
    · rename_i d hd
      have : E.get d = E'.get d := h d (by
        unfold Oper.looksAt
        refine List.mem_append.2 (.inr ?_)
        simp [hg, hd])
      simp only [this]
    · rfl

/-- The last one of a kind under a number; the first one. -/
theorem last_of (X : Nat → Prop) (i : Nat) : ∀ d, (∀ k, i ≤ k → k < i + d → ¬ X k) ∨ ∃ c, i ≤ c ∧ c < i + d ∧ X c ∧ ∀ k, c < k → k < i + d → ¬ X k
  | 0 => .inl fun k h1 h2 => by omega
  | d + 1 => by
    by_cases h : X (i + d)
    · exact .inr ⟨i + d, by omega, by omega, h, fun k h1 h2 => by omega⟩
    · rcases last_of X i d with h1 | ⟨c, h1, h2, h3, h4⟩
      · refine .inl fun k h2 h3 => ?_
        by_cases e : k = i + d
        · subst e; exact h
        · exact h1 k h2 (by omega)
      · refine .inr ⟨c, h1, by omega, h3, fun k h5 h6 => ?_⟩
        by_cases e : k = i + d
        · subst e; exact h
        · exact h4 k h5 (by omega)
theorem first_of (X : Nat → Prop) (i : Nat) : ∀ d, (∀ k, i ≤ k → k < i + d → ¬ X k) ∨ ∃ c, i ≤ c ∧ c < i + d ∧ X c ∧ ∀ k, i ≤ k → k < c → ¬ X k
  | 0 => .inl fun k h1 h2 => by omega
  | d + 1 => by
    rcases first_of X i d with h1 | ⟨c, h1, h2, h3, h4⟩
    · by_cases h : X (i + d)
      · exact .inr ⟨i + d, by omega, by omega, h, fun k h2 h3 => h1 k h2 h3⟩
      · refine .inl fun k h2 h3 => ?_
        by_cases e : k = i + d
        · subst e; exact h
        · exact h1 k h2 (by omega)
    · exact .inr ⟨c, h1, by omega, h3, h4⟩

theorem Trc.m_same' (ht : Trc P B WB nt call ops ms st bs vs) {i j : Nat} (hij : i ≤ j) (hj : j ≤ ops.size) (h : ∀ k, i ≤ k → k < j → ¬ IsChain P ops bs k) : (st j).H.m = (st i).H.m := by
  obtain ⟨d, rfl⟩ := Nat.le.dest hij
  exact ht.m_same d hj h

/-- What a memory with pending blocks in it comes to lies in the memory that there is. -/
theorem St.within (s : St P B WB nt ops ms st bs D0 ρ0 H0 w0 df L T D ρ M EL a w) {i : Nat} (hr : ∀ k, hasBit (ms.getD i 0) k = true → L k) {p : Pend} {H : AH}
    (hH : ∀ b o, H.m.get b = some o → (st T).H.m.get b = some o)
    (hp : ∀ k id q, (k, id, q) ∈ p → AR P B ops st bs k id q ∧ ∀ c, c < T → IsChain P ops bs c → hasBit (ms.getD c 0) k = false ∨ c < k) :
    ∀ b o, (withPend (ms.getD i 0) p H).m.get b = some o → M.get b = some o := by
  intro b o h
  rcases withPend_get _ _ _ _ _ h with h1 | ⟨k, h1, h2⟩
  · exact s.sub b o (hH b o h1)
  · obtain ⟨h3, h4⟩ := hp k b o h1
    exact s.pend k b o h3 (hr k h2) h4

/-- An operation that reads, whenever it goes: there is a memory inside the one that is, where it reads what it read. -/
theorem St.reads (c : Ctx P B WB nt call ops ms st bs vs D0 H0) (s : St P B WB nt ops ms st bs D0 ρ0 H0 w0 df L T D ρ M EL a w) {i : Nat} {o : Oper} (ho : ops[i]? = some o)
    (hn : ¬ L i) (hr : ∀ k, hasBit (ms.getD i 0) k = true → L k) (hb : bs i = true) (hcl : clsE P o.op = .read)
    (h1 : (readB P B o.op).f (st i).E (withPend (ms.getD i 0) (st i).pend (st i).H) = some (vs i)) (h2 : histSame P B (ms.getD i 0) (st i).pend (st i).E o.op (vs i) (st i).hist = true) :
    ∃ Hs : AH, (readB P B o.op).f (st i).E Hs = some (vs i) ∧ (∀ b q, Hs.m.get b = some q → M.get b = some q) ∧ ∃ j, j ≤ ops.size ∧ Hs.next = (st j).H.next := by
  have hi := lt_size ho
  have hnc : ¬ IsChain P ops bs i := by
    rintro ⟨o', ho', _, hc⟩
    rw [ho] at ho'; cases ho'
    rw [hcl] at hc; cases hc
  have htn := s.tn
  rcases Nat.lt_or_ge i T with hlt | hge
  · -- some that write have gone already, though they stand behind
    obtain ⟨d, hd⟩ : ∃ d, T = i + d := ⟨T - i, by omega⟩
    rcases last_of (IsChain P ops bs) i d with h3 | ⟨k, h3, h4, h5, h6⟩
    · refine ⟨_, h1, s.within hr (fun b q h => ?_) (fun k id q h => ?_), i, by omega, withPend_next _ _ _⟩
      · rw [c.ht.m_same' (i := i) (j := T) (by omega) htn (by rw [hd]; exact h3)]; exact h
      · obtain ⟨h7, h8, h9⟩ := c.ht.pend c.s0p i (Nat.le_of_lt hi) k id q h
        refine ⟨h7, fun x hx hch => ?_⟩
        rcases Nat.lt_or_ge x i with h10 | h10
        · exact h9 x h10 hch
        · exact absurd hch (h3 x h10 (by omega))
    · have hki : i < k := by
        rcases Nat.lt_or_ge i k with h | h
        · exact h
        · have : k = i := by omega
          subst this; exact absurd h5 hnc
      obtain ⟨ok, hok, hbk, hck⟩ := h5
      have h7 := (c.ht k ok hok).kind
      rw [hbk] at h7
      cases h7 with
      | pure h => rw [h] at hck; cases hck
      | read h => rw [h] at hck; cases hck
      | alloc _ h => rw [h] at hck; cases hck
      | chain _ _ _ h8 h9 =>
        have h10 := readsSame_mem h8 _ (c.ht.reads k (Nat.le_of_lt (lt_size hok)) i o hki ho hb hcl)
        rcases h10 with h10 | h10
        · have hlk : L k := (s.ch k ⟨ok, hok, hbk, hck⟩).2 (by omega)
          exact absurd (s.cl k hlk i h10) hn
        · refine ⟨_, h10, s.within hr (fun b q h => ?_) (fun x id q h => ?_), k + 1, lt_size hok, withPend_next _ _ _⟩
          · rw [c.ht.m_same' (i := k + 1) (j := T) (by omega) htn (fun x h1 h2 => h6 x (by omega) (by omega))]; exact h
          · rw [← h9] at h
            obtain ⟨h11, h12, h13⟩ := c.ht.pend c.s0p (k + 1) (lt_size hok) x id q h
            refine ⟨h11, fun y hy hch => ?_⟩
            rcases Nat.lt_or_ge y (k + 1) with h14 | h14
            · exact h13 y h14 hch
            · exact absurd hch (h6 y (by omega) (by omega))
  · have hp : ∀ k id q, (k, id, q) ∈ (st i).pend → AR P B ops st bs k id q ∧ ∀ c, c < T → IsChain P ops bs c → hasBit (ms.getD c 0) k = false ∨ c < k := by
      intro k id q h
      obtain ⟨h7, h8, h9⟩ := c.ht.pend c.s0p i (Nat.le_of_lt hi) k id q h
      exact ⟨h7, fun x hx hch => h9 x (by omega) hch⟩
    obtain ⟨d, hd⟩ : ∃ d, i = T + d := ⟨i - T, by omega⟩
    rcases first_of (IsChain P ops bs) T d with h3 | ⟨k, h3, h4, h5, h6⟩
    · refine ⟨_, h1, s.within hr (fun b q h => ?_) hp, i, by omega, withPend_next _ _ _⟩
      rw [c.ht.m_same' (i := T) (j := i) hge (Nat.le_of_lt hi) (by rw [hd]; exact h3)] at h; exact h
    · rcases histSame_mem h2 _ (c.ht.hist i (Nat.le_of_lt hi) k (by omega) h5) with h7 | h7
      · have := (s.ch k h5).1 (hr k h7)
        omega
      · refine ⟨_, h7, s.within hr (fun b q h => ?_) hp, k, by omega, withPend_next _ _ _⟩
        rw [c.ht.m_same' (i := T) (j := k) h3 (by omega) h6] at h; exact h

theorem step_refl {lo hi : Nat} (h : lo ≤ hi) : Stp WB D ρ ⟨M, lo⟩ w D ρ ⟨M, hi⟩ w :=
  ⟨fun _ h => h, fun _ _ => rfl, fun _ h => .inl h, h, Nat.le_refl _, fun _ _ h => h, rfl, rfl, rfl, fun _ _ _ => rfl, fun _ h => .inl h⟩

/-- An operation that leaves the memory be. -/
theorem St.still (c : Ctx P B WB nt call ops ms st bs vs D0 H0) (hd0 : ∀ b, Live H0 b → D0 b) (hw : WB ≤ H0.next) (s : St P B WB nt ops ms st bs D0 ρ0 H0 w0 df L T D ρ M EL a w) {i : Nat} {o : Oper}
    (ho : ops[i]? = some o) (hn : ¬ L i) (hr : ∀ k, hasBit (ms.getD i 0) k = true → L k) {v' : Value} (hnc : ¬ IsChain P ops bs i) (hna : ∀ id q, ¬ AR P B ops st bs i id q)
    (hv : VR D ρ w.shape? (vs i) v') : ∃ EL', St P B WB nt ops ms st bs D0 ρ0 H0 w0 df (fun k => L k ∨ k = i) T D ρ M EL' (a.put o.dst v') w := by
  have hi := lt_size ho
  refine s.more c hd0 ho hn hr (fun k hk => ?_) s.tn (s.hr.part (fun _ _ h => h) (St.wbAt c hw hi)) (step_refl (c.mono (Nat.le_succ i) hi)) hv s.sub s.away (fun k id q h1 h2 h3 => ?_)
  · rw [← s.ch k hk]
    refine ⟨fun h => h.elim id fun e => ?_, .inl⟩
    subst e; exact absurd hk hnc
  · rcases h2 with h2 | rfl
    · exact s.pend k id q h1 h2 h3
    · exact absurd h1 (hna id q)

end
end Go.Ev
