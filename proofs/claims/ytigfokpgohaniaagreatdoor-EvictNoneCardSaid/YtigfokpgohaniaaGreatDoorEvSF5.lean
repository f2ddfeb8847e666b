/- Regions whose order is drawn: an operation that writes goes; every order comes to the same. -/
import Derived.Test.YtigfokpgohaniaaGreatDoorEvSF4
namespace Go.Ev
open Go
section
variable {P : Program} {B WB nt : Nat} {call : FuncId → List AV → AH → Res}
variable {ops : Array Oper} {ms : List Nat} {st : Nat → RS} {bs : Nat → Bool} {vs : Nat → AV} {D0 : Nat → Prop} {H0 : AH}
variable {ρ0 : Nat → Nat} {w0 : World} {df : List Deferred} {L : Nat → Prop} {T : Nat} {D : Nat → Prop} {ρ : Nat → Nat} {M : Tr AObj} {EL : Tr AV} {a : Act} {w : World}

/-- The memory behind an operation that met only a part of it. -/
theorem overlay {W H' : AH} {X : Nat → Prop} {F : Tr AObj} {D' : Nat → Prop} {ρ' : Nat → Nat} {w' : World} {lo : Nat} (hr : HR B WB D ρ ⟨M, lo⟩ w) (hsub : ∀ b o, W.m.get b = some o → M.get b = some o)
    (hlo : W.next = lo) (hr' : HR B WB D' ρ' H' w') (s : Stp WB D ρ W w D' ρ' H' w') (hX : ∀ b, X b → ¬ Live W b) (hF : ∀ n, (X n → F.get n = M.get n) ∧ (¬ X n → F.get n = none)) :
    HR B WB D' ρ' ⟨Tr.over H'.m F, H'.next⟩ w' ∧ Stp WB D ρ ⟨M, lo⟩ w D' ρ' ⟨Tr.over H'.m F, H'.next⟩ w' := by
  have hWM : ∀ b, Live W b → Live ⟨M, lo⟩ b := fun b ⟨o, h⟩ => ⟨o, hsub b o h⟩
  have hget : ∀ b o, (Tr.over H'.m F).get b = some o → H'.m.get b = some o ∨ (X b ∧ M.get b = some o) := by
    intro b o h
    rw [Tr.over_get] at h
    cases hg : H'.m.get b with
    | some q => rw [hg] at h; exact .inl h
    | none =>
      rw [hg] at h
      simp only [Option.none_or] at h
      by_cases hx : X b
      · rw [(hF b).1 hx] at h; exact .inr ⟨hx, h⟩
      · rw [(hF b).2 hx] at h; cases h
  have hlive : ∀ b, Live ⟨Tr.over H'.m F, H'.next⟩ b → Live H' b ∨ (X b ∧ Live ⟨M, lo⟩ b) := by
    rintro b ⟨o, h⟩
    rcases hget b o h with h | ⟨h1, h2⟩
    · exact .inl ⟨o, h⟩
    · exact .inr ⟨h1, o, h2⟩
  have hsz : ∀ b, Live ⟨M, lo⟩ b → ρ b < w.heap.size := by
    rintro b ⟨o, h⟩
    obtain ⟨r, h1, _⟩ := hr.obj b o h
    exact lt_of_get h1
  have hmix : ∀ x y, Live H' x → X y → Live ⟨M, lo⟩ y → ρ' x = ρ' y → x = y := by
    intro x y hx hy hly e
    rw [s.r y (hr.dom y hly)] at e
    rcases s.img x hx with h | ⟨_, h | ⟨z, hz, _, h⟩⟩
    · rw [s.r x (hr.dom x (hWM x h))] at e
      exact hr.inj x y (hWM x h) hly e
    · have := hsz y hly; omega
    · have := hr.inj z y (hWM z hz) hly (h.symm.trans e)
      subst this
      exact absurd hz (hX z hy)
  refine ⟨⟨hr'.lo, hr'.wb, ?_, ?_, ?_⟩, ⟨s.d, s.r, ?_, ?_, s.size, s.shp, s.os, s.tape, s.output, ?_, ?_⟩⟩
  · intro x y hx hy e
    rcases hlive x hx with hx | ⟨hx, hlx⟩
    · rcases hlive y hy with hy | ⟨hy, hly⟩
      · exact hr'.inj x y hx hy e
      · exact hmix x y hx hy hly e
    · rcases hlive y hy with hy | ⟨hy, hly⟩
      · exact (hmix y x hy hx hlx e.symm).symm
      · rw [s.r x (hr.dom x hlx), s.r y (hr.dom y hly)] at e
        exact hr.inj x y hlx hly e
  · intro b hb
    rcases hlive b hb with h | ⟨_, h⟩
    · exact hr'.dom b h
    · exact s.d b (hr.dom b h)
  · intro b o hb
    rcases hget b o hb with h | ⟨hx, h⟩
    · exact hr'.obj b o h
    · obtain ⟨r, h1, h2⟩ := hr.obj b o h
      have hl : Live ⟨M, lo⟩ b := ⟨o, h⟩
      refine ⟨r, ?_, h2.grow s.grow⟩
      rw [s.r b (hr.dom b hl), s.frame (ρ b) (hsz b hl) ?_]
      · exact h1
      · intro z hz _ e
        have := hr.inj z b (hWM z hz) hl e
        subst this
        exact hX z hx hz
  · intro b hb; rw [← hlo]; exact s.fresh b hb
  · show lo ≤ _; rw [← hlo]; exact s.next
  · intro r h1 h2
    exact s.frame r h1 fun b hb hwb => h2 b (hWM b hb) hwb
  · intro b hb
    rcases hlive b hb with h | ⟨_, h⟩
    · rcases s.img b h with h | ⟨h1, h2⟩
      · exact .inl (hWM b h)
      · refine .inr ⟨by rw [← hlo]; exact h1, ?_⟩
        rcases h2 with h2 | ⟨z, hz, hwz, e⟩
        · exact .inl h2
        · exact .inr ⟨z, hWM z hz, hwz, e⟩
    · exact .inl h

/-- Of those that write, all ahead of the next one have gone. -/
theorem St.before (c : Ctx P B WB nt call ops ms st bs vs D0 H0) (s : St P B WB nt ops ms st bs D0 ρ0 H0 w0 df L T D ρ M EL a w) {i : Nat} (hi : i < ops.size)
    (hn : ¬ L i) (hr : ∀ k, hasBit (ms.getD i 0) k = true → L k) (hch : IsChain P ops bs i) (hl : lastIn (ms.getD i 0) (st i).hist = true) : T ≤ i ∧ ∀ k, T ≤ k → k < i → ¬ IsChain P ops bs k := by
  have h0 : T ≤ i := by
    rcases Nat.lt_or_ge i T with h | h
    · exact absurd ((s.ch i hch).2 h) hn
    · exact h
  refine ⟨h0, fun k h1 h2 hk => ?_⟩
  have hlk : L k := by
    -- the last one ahead of 'i' has gone, and so have all ahead of it
    have key : ∀ j, j ≤ ops.size → IsChain P ops bs j ∨ True → (∀ k, hasBit (ms.getD j 0) k = true → L k) → lastIn (ms.getD j 0) (st j).hist = true → ∀ k, k < j → IsChain P ops bs k → L k := by
      intro j
      induction j using Nat.strongRecOn with
      | ind j ih =>
        intro hj _ hrj hlj k hkj hck
        rcases c.ht.lastHist c.s0h j hj with ⟨_, h4⟩ | ⟨x, Hx, l, h3, h4, h5, h6⟩
        · exact absurd hck (h4 k hkj)
        · rw [h3] at hlj
          have hx : L x := hrj x hlj
          rcases Nat.lt_trichotomy k x with h | h | h
          · obtain ⟨ox, hox, hbx, hcx⟩ := h5
            have h7 := (c.ht x ox hox).kind
            rw [hbx] at h7
            cases h7 with
            | pure h => rw [h] at hcx; cases hcx
            | read h => rw [h] at hcx; cases hcx
            | alloc _ h => rw [h] at hcx; cases hcx
            | chain _ h8 => exact ih x h4 (by omega) (.inr trivial) (fun y hy => s.cl x hx y hy) h8 k h hck
          · subst h; exact hx
          · exact absurd hck (h6 k h hkj)
    exact key i (Nat.le_of_lt hi) (.inr trivial) hr hl k h2 hk
  have := (s.ch k hk).1 hlk
  omega

/-- An operation goes that is next. -/
theorem St.op (c : Ctx P B WB nt call ops ms st bs vs D0 H0) (hd0 : ∀ b, Live H0 b → D0 b) (hw : WB ≤ H0.next) (s : St P B WB nt ops ms st bs D0 ρ0 H0 w0 df L T D ρ M EL a w) {i : Nat} {o : Oper}
    (ho : ops[i]? = some o) (hn : ¬ L i) (hr : ∀ k, hasBit (ms.getD i 0) k = true → L k) {Q : Exit → Act → World → Prop} {K : Act → World → Prop}
    (hk : ∀ T' D' ρ' M' EL' a' w', St P B WB nt ops ms st bs D0 ρ0 H0 w0 df (fun k => L k ∨ k = i) T' D' ρ' M' EL' a' w' → K a' w') : wpOp P ops Q i K a w := by
  have hi := lt_size ho
  have hlook := s.looks c ho hn hr
  have hag : Agree o.op EL (st i).E := agree_looks hlook
  have hwant : (wantE ops o).f EL = some (bs i) := by rw [wantE_congr hlook]; exact (c.ht i o ho).want
  have hw1 := wantE_ok s.er hwant
  have hkind := (c.ht i o ho).kind
  have hwi := St.wbAt c hw (Nat.le_of_lt hi)
  have hri : HR B WB D ρ ⟨M, (st i).H.next⟩ w := s.hr.part (fun _ _ h => h) hwi
  have hfree := s.freeAt c hi hn
  have hnot : (∀ o', ops[i]? = some o' → bs i = true → clsE P o'.op = .chain → False) → ¬ IsChain P ops bs i := fun h ⟨o', h1, h2, h3⟩ => h o' h1 h2 h3
  have hnot' : (∀ o', ops[i]? = some o' → bs i = true → clsE P o'.op = .alloc → False) → ∀ id q, ¬ AR P B ops st bs i id q := fun h id q ⟨o', m, h1, h2, h3, _⟩ => h o' h1 h2 h3
  unfold wpOp
  simp only [ho]
  rw [hw1]
  generalize hb : bs i = b at hkind
  cases hkind with
  | skip hv h1 =>
    simp only [Bool.false_eq_true, if_false]
    obtain ⟨EL', h2⟩ := s.still c hd0 hw ho hn hr (v' := undef) (hnot fun o' _ h => by rw [hb] at h; cases h) (hnot' fun o' _ h => by rw [hb] at h; cases h) (by rw [hv]; exact vr_undef)
    exact hk _ _ _ _ _ _ _ h2
  | pure hcl h1 he =>
    simp only [if_true]
    refine .inl ((yld_aft hri (pureB_ok hri.low s.er (o := o) (v := vs i) ?_)).wp fun v' w' ⟨D', ρ', h4, h5, h6⟩ => ?_)
    · rw [pureB_congr hag]; exact h1
    · refine Exists.elim (s.more c hd0 ho hn hr (T' := T) (M' := M) (D' := D') (ρ' := ρ') (w' := w') (v' := v') (fun k hk' => ?_) s.tn (h4.part (fun _ _ h => h) (St.wbAt c hw hi)) ?_ h5 s.sub s.away (fun k id q g1 g2 g3 => ?_)) fun EL' h7 => hk _ _ _ _ _ _ _ h7
      · rw [← s.ch k hk']
        refine ⟨fun h => h.elim id fun e => ?_, .inl⟩
        subst e; exact absurd hk' (hnot fun o' g1 _ g3 => by rw [ho] at g1; cases g1; rw [hcl] at g3; cases g3)
      · rw [he]; exact h6
      · rcases g2 with g2 | rfl
        · exact s.pend k id q g1 g2 g3
        · exact absurd g1 (hnot' (fun o' g1 _ g3 => by rw [ho] at g1; cases g1; rw [hcl] at g3; cases g3) id q)
  | read hcl h1 h2 he =>
    simp only [if_true]
    obtain ⟨Hs, q1, q2, j, q3, q4⟩ := s.reads c ho hn hr hb hcl h1 h2
    have hrs : HR B WB D ρ Hs w := s.hr.part q2 (by rw [q4]; exact St.wbAt c hw q3)
    refine .inl ((yld_aft hri (readB_ok hrs s.er (o := o) (v := vs i) ?_)).wp fun v' w' ⟨D', ρ', h4, h5, h6⟩ => ?_)
    · rw [readB_congr hag]; exact q1
    · refine Exists.elim (s.more c hd0 ho hn hr (T' := T) (M' := M) (D' := D') (ρ' := ρ') (w' := w') (v' := v') (fun k hk' => ?_) s.tn (h4.part (fun _ _ h => h) (St.wbAt c hw hi)) ?_ h5 s.sub s.away (fun k id q g1 g2 g3 => ?_)) fun EL' h7 => hk _ _ _ _ _ _ _ h7
      · rw [← s.ch k hk']
        refine ⟨fun h => h.elim id fun e => ?_, .inl⟩
        subst e; exact absurd hk' (hnot fun o' g1 _ g3 => by rw [ho] at g1; cases g1; rw [hcl] at g3; cases g3)
      · rw [he]; exact h6
      · rcases g2 with g2 | rfl
        · exact s.pend k id q g1 g2 g3
        · exact absurd g1 (hnot' (fun o' g1 _ g3 => by rw [ho] at g1; cases g1; rw [hcl] at g3; cases g3) id q)
  | alloc m hcl h1 hv he =>
    simp only [if_true]
    have hn1 : (st (i + 1)).H.next = (st i).H.next + 1 := by rw [he]
    have har : AR P B ops st bs i (st i).H.next m.2 := ⟨o, m, ho, hb, hcl, h1, rfl, rfl⟩
    have hq : ∀ c', c' < T → IsChain P ops bs c' → hasBit (ms.getD c' 0) i = false ∨ c' < i := by
      intro x hx hcx
      cases hbit : hasBit (ms.getD x 0) i
      · exact .inl rfl
      · exact absurd (s.cl x ((s.ch x hcx).2 hx) i hbit) hn
    have haw := s.away i _ _ har hq
    refine .inl ((alloc_aft (H := ⟨M, (st i).H.next⟩) hri s.er (by rw [← hn1]; exact hfree) (o := o) (m := m) (by rw [allocB_congr hag]; exact h1)).wp fun v' w' ⟨D', ρ', h4, h5, h6⟩ => ?_)
    refine Exists.elim (s.more c hd0 ho hn hr (T' := T) (M' := M.set (st i).H.next (some m.2)) (D' := D') (ρ' := ρ') (w' := w') (v' := v') (fun k hk' => ?_) s.tn ?_ ?_ (by rw [hv]; exact h5) ?_ s.away (fun k id q g1 g2 g3 => ?_)) fun EL' h7 => hk _ _ _ _ _ _ _ h7
    · rw [← s.ch k hk']
      refine ⟨fun h => h.elim id fun e => ?_, .inl⟩
      subst e; exact absurd hk' (hnot fun o' g1 _ g3 => by rw [ho] at g1; cases g1; rw [hcl] at g3; cases g3)
    · rw [hn1]; exact h4
    · rw [hn1]; exact h6
    · intro b q hq'
      rw [Tr.get_set]
      split
      · rename_i e; subst e; rw [haw] at hq'; cases hq'
      · exact s.sub b q hq'
    · rw [Tr.get_set]
      rcases g2 with g2 | rfl
      · rw [if_neg]
        · exact s.pend k id q g1 g2 g3
        · intro e; subst e
          have := c.arId g1 har
          subst this; exact hn g2
      · obtain ⟨e1, e2⟩ := AR.det g1 har
        rw [if_pos e1, e2]
  | chain hcl hl h1 _ hpd =>
    simp only [if_true]
    have hch : IsChain P ops bs i := ⟨o, ho, hb, hcl⟩
    obtain ⟨hTi, hbet⟩ := s.before c hi hn hr hch hl
    have hnx := withPend_next (ms.getD i 0) (st i).pend (st i).H
    have hm := c.ht.m_same' hTi (Nat.le_of_lt hi) hbet
    have hWM : ∀ b q, (withPend (ms.getD i 0) (st i).pend (st i).H).m.get b = some q → M.get b = some q := by
      refine s.within hr (fun b q h => by rw [← hm]; exact h) (fun k id q h => ?_)
      obtain ⟨h7, h8, h9⟩ := c.ht.pend c.s0p i (Nat.le_of_lt hi) k id q h
      exact ⟨h7, fun x hx hc => h9 x (by omega) hc⟩
    have hrW : HR B WB D ρ (withPend (ms.getD i 0) (st i).pend (st i).H) w := s.hr.part hWM (by rw [hnx]; exact hwi)
    have hno : ∀ k id q, AR P B ops st bs k id q → (∀ c, c < i + 1 → IsChain P ops bs c → hasBit (ms.getD c 0) k = false ∨ c < k) → ¬ Live (withPend (ms.getD i 0) (st i).pend (st i).H) id := by
      rintro k id q hk1 hk2 ⟨z, hz⟩
      rcases withPend_get _ _ _ _ _ hz with h | ⟨x, h2, h3⟩
      · rw [hm, s.away k id q hk1 (fun x hx hc => hk2 x (by omega) hc)] at h; cases h
      · obtain ⟨h4, h5, _⟩ := c.ht.pend c.s0p i (Nat.le_of_lt hi) x id z h2
        have := c.arId hk1 h4
        subst this
        rcases hk2 i (Nat.lt_succ_self i) hch with h6 | h6
        · rw [h6] at h3; cases h3
        · omega
    obtain ⟨F, hF⟩ := Tr.part M (fun b => ∃ k q, AR P B ops st bs k b q ∧ ∀ c, c < i + 1 → IsChain P ops bs c → hasBit (ms.getD c 0) k = false ∨ c < k)
    refine .inl ((chainB_ok c.hc hrW s.er (o := o) (r := (vs i, (st (i + 1)).H)) (by rw [chainB_congr hag]; exact h1) (by rw [hnx]; exact hfree)).wp fun v' w' ⟨D', ρ', h4, h5, h6⟩ => ?_)
    obtain ⟨h7, h8⟩ := overlay (M := M) (lo := (st i).H.next) hri hWM hnx h4 h6 (fun b ⟨k, q, g1, g2⟩ => hno k b q g1 g2) hF
    have haway : ∀ k id q, AR P B ops st bs k id q → (∀ c, c < i + 1 → IsChain P ops bs c → hasBit (ms.getD c 0) k = false ∨ c < k) → (st (i + 1)).H.m.get id = none := by
      intro k id q g1 g2
      cases hg : (st (i + 1)).H.m.get id with
      | none => rfl
      | some z =>
        exfalso
        have hlv : Live (st (i + 1)).H id := ⟨z, hg⟩
        rcases h6.img id hlv with h | ⟨h, himg⟩
        · exact hno k id q g1 g2 h
        · have h9 := h4.dom id hlv
          obtain ⟨b1, b2, b3⟩ := c.kindAlloc g1
          have hup : id < (st (i + 1)).H.next := by
            rcases h6.fresh id h9 with h | ⟨_, h⟩
            · rw [hnx] at *
              rcases Nat.lt_or_ge id (st (i + 1)).H.next with h' | h'
              · exact h'
              · exfalso
                rcases s.ids id h with h'' | ⟨j, hj1, hj2, hj3, hj4⟩
                · have e5 := c.mono (Nat.zero_le k) (Nat.le_of_lt b1)
                  have e6 := c.mono (i := k + 1) (j := ops.size) b1 (Nat.le_refl _)
                  rw [c.s0H] at e5
                  exact c.free id h'' ⟨by omega, by omega⟩
                · have e1 := c.disj hj2 b1 hj3 hj4 b2 b3
                  subst e1
                  have hMl : Live ⟨M, (st i).H.next⟩ id := ⟨q, s.pend j id q g1 hj1 fun x hx hc => g2 x (by omega) hc⟩
                  obtain ⟨r0, hr0, _⟩ := hri.obj id _ hMl.choose_spec
                  have hlt := lt_of_get hr0
                  rcases himg with h | ⟨z, hz, _, h⟩
                  · rw [h6.r id (hri.dom id hMl)] at h; omega
                  · rw [h6.r id (hri.dom id hMl)] at h
                    obtain ⟨zo, hzo⟩ := hz
                    have := hri.inj id z hMl ⟨zo, hWM _ _ hzo⟩ h
                    subst this
                    exact hno j id q g1 g2 ⟨zo, hzo⟩
            · exact h
          rw [hnx] at h
          have := c.disj hi b1 h hup b2 b3
          subst this
          exact AR.notChain g1 hch
    refine Exists.elim (s.more c hd0 ho hn hr (T' := i + 1) (M' := Tr.over (st (i + 1)).H.m F) (D' := D') (ρ' := ρ') (w' := w') (v' := v') (fun k hk' => ?_) hi h7 h8 h5 ?_ haway (fun k id q g1 g2 g3 => ?_)) fun EL' h9 => hk _ _ _ _ _ _ _ h9
    · constructor
      · rintro (h | rfl)
        · have := (s.ch k hk').1 h; omega
        · omega
      · intro h
        by_cases e : k = i
        · exact .inr e
        · refine .inl ((s.ch k hk').2 ?_)
          rcases Nat.lt_or_ge k T with h' | h'
          · exact h'
          · exact absurd hk' (hbet k h' (by omega))
    · intro b q hq
      rw [Tr.over_get, hq]; rfl
    · have hlk : L k := by
        rcases g2 with g2 | rfl
        · exact g2
        · exact absurd hch (AR.notChain g1)
      rw [Tr.over_get, haway k id q g1 g3, Option.none_or, (hF id).1 ⟨k, q, g1, g3⟩]
      exact s.pend k id q g1 hlk fun x hx hc => g3 x (by omega) hc
end
end Go.Ev
