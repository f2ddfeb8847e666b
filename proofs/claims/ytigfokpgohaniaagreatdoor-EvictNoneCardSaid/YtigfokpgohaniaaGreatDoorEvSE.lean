/- The plain evaluator is sound: every operation; regions in one order. -/
import Derived.Test.YtigfokpgohaniaaGreatDoorEvSD
namespace Go.Ev
open Go

section
variable {P : Program} {B WB : Nat}
variable {D : Nat → Prop} {ρ : Nat → Nat} {w : World} {nt : Nat} {H : AH}

/-! Numbers of blocks only rise. -/
theorem writeE_next {b off : Nat} {vs : List AV} {k : AH → Res} {r : AV × AH} (hk : ∀ H', H'.next = H.next → k H' = some r → H.next ≤ r.2.next) (h : writeE WB H b off vs k = some r) : H.next ≤ r.2.next := by
  rcases writeE_iff h with ⟨_, h1⟩ | ⟨cs, e, fz, _, _, _, _, _, h1⟩
  · exact hk H rfl h1
  · refine hk _ ?_ h1; rfl
theorem srcE_some {x : AV} {n size : Nat} {k : List AV → Res} {r : AV × AH} (h : srcE H x n size k = some r) : ∃ l, k l = some r := by
  unfold srcE at h
  split at h
  · exact ⟨_, h⟩
  · dsimp only at h
    split at h
    · obtain ⟨cs, h1, h2⟩ := bindO_some_iff.1 h
      rw [takeK_eq] at h2
      cases hb : Nat.beq (lenR ((dropR _ cs).take _)) _
      · rw [hb] at h2; cases h2
      · rw [hb] at h2; exact ⟨_, h2⟩
    · rename_i s
      cases hb : Nat.beq size 1
      · rw [hb] at h; cases h
      · rw [hb, cond_true, takeK_eq, mapK_eq] at h; exact ⟨_, h⟩
    · cases h
theorem storeE_next {t : TypeId} {p v : AV} {r : AV × AH} (h : (storeE P WB t).f H p v = some r) : H.next ≤ r.2.next := by
  unfold storeE at h
  split at h
  · rw [natK_eq] at h
    dsimp only at h
    split at h
    · rename_i n _ _ b o
      cases hb : Nat.beq (lenR v.cells) n
      · rw [hb] at h; cases h
      · rw [hb, cond_true] at h
        exact writeE_next (fun H' hn h => by simp only [Option.some.injEq] at h; subst h; simp [hn]) h
    · cases h
  · cases h
theorem appendE_next {sT xT : TypeId} {s x : AV} {r : AV × AH} (h : (appendE P WB sT xT).f H s x = some r) : H.next ≤ r.2.next := by
  unfold appendE at h
  split at h
  · rename_i e xd _ _
    cases hxi : isIntT xd
    · rw [hxi] at h
      simp only [cond_false] at h
      split at h
      · rename_i size0 i z _ _ _
        cases hzb : Nat.beq (lenR z.cells) (size0 + 1)
        · rw [hzb] at h; cases h
        rw [hzb] at h
        simp only [cond_true, natK_eq] at h
        unfold appendG at h
        split at h
        · rename_i base sLen sCap
          obtain ⟨n, hn, h2⟩ := bindO_some_iff.1 h
          cases hbb : Nat.ble ((2 * (sLen + n) + 1024) * (i.bytes + 1)) 140737488355328
          · rw [hbb] at h2; cases h2
          rw [hbb] at h2
          simp only [cond_true, natK_eq] at h2
          split at h2
          · rename_i c
            cases hle : Nat.ble (sLen + n) c
            · rw [hle] at h2
              simp only [cond_false] at h2
              unfold appendNew at h2
              obtain ⟨l1, h3⟩ := srcE_some h2
              obtain ⟨l2, h4⟩ := srcE_some h3
              rw [appK_eq, newE_eq] at h4
              simp only [Option.some.injEq] at h4; subst h4
              simp
            · rw [hle] at h2
              simp only [cond_true] at h2
              unfold appendIn at h2
              obtain ⟨l1, h3⟩ := srcE_some h2
              split at h3
              · simp only [Option.some.injEq] at h3; subst h3; simp
              · exact writeE_next (fun H' hn h => by simp only [Option.some.injEq] at h; subst h; simp [hn]) h3
          · rename_i s2
            split at h2
            · simp only [Option.some.injEq] at h2; subst h2; simp
            · cases hs2 : Nat.beq s2 (size0 + 1)
              · rw [hs2] at h2; cases h2
              rw [hs2] at h2
              simp only [cond_true] at h2
              unfold appendOn at h2
              split at h2
              · rename_i cs e' fz _
                cases hcc : (Nat.ble WB _ && Nat.blt 0 sLen && Nat.beq (lenR cs) (sLen * (size0 + 1)) && Nat.beq e' e && fzOk fz (sLen * (size0 + 1)))
                · rw [hcc] at h2; cases h2
                rw [hcc] at h2
                simp only [cond_true] at h2
                obtain ⟨l1, h3⟩ := srcE_some h2
                cases hone : l1.all AV.one
                · rw [hone] at h3; cases h3
                rw [hone, cond_true, appK_eq, Tr.setK_set, newE_eq] at h3
                simp only [Option.some.injEq] at h3; subst h3; simp
              · cases h2
            · cases h2
        · cases h
      · cases h
    · rw [hxi] at h; cases h
  · cases h
theorem copyE_next {dT : TypeId} {d s : AV} {r : AV × AH} (h : (copyE P WB dT).f H d s = some r) : H.next ≤ r.2.next := by
  unfold copyE at h
  split at h
  · split at h
    · rename_i size _
      rw [natK_eq] at h
      have h0 : copyG WB size H d s = some r := h
      unfold copyG at h0
      split at h0
      · obtain ⟨sLen, hn, h2⟩ := bindO_some_iff.1 h0
        rw [natK_eq] at h2
        obtain ⟨l1, h3⟩ := srcE_some h2
        split at h3
        · simp only [Option.some.injEq] at h3; subst h3; simp
        · exact writeE_next (fun H' hn h => by simp only [Option.some.injEq] at h; subst h; simp [hn]) h3
      · cases h0
    · cases h
  · cases h
theorem setObjE_next {r0 : Nat} {o : AObj} {k : AH → Res} {r : AV × AH} (hk : ∀ H', H'.next = H.next → k H' = some r → H.next ≤ r.2.next) (h : setObjE WB H r0 o k = some r) : H.next ≤ r.2.next :=
  by have h1 := (setObjE_iff h).2; refine hk _ ?_ h1; rfl
theorem mapUpdateE_next {t : TypeId} {m k v : AV} {r : AV × AH} (h : mapUpdateE P WB t H m k v = some r) : H.next ≤ r.2.next := by
  unfold mapUpdateE at h
  split at h
  · rename_i kt _ _ _
    cases hkk : keyKind P kt k
    · rw [hkk] at h; cases h
    · rw [hkk] at h
      simp only [cond_true] at h
      split at h
      · obtain ⟨at', h1, h2⟩ := bindO_some_iff.1 h
        unfold mapPut at h2
        split at h2
        · rw [wholeK_eq] at h2
          exact setObjE_next (fun H' hn h => by simp only [Option.some.injEq] at h; subst h; simp [hn]) h2
        · rw [appK_eq, natK_eq] at h2
          exact setObjE_next (fun H' hn h => by simp only [Option.some.injEq] at h; subst h; simp [hn]) h2
      · cases h
  · cases h
theorem deleteE_next {t : TypeId} {m k : AV} {r : AV × AH} (h : deleteE P WB t H m k = some r) : H.next ≤ r.2.next := by
  unfold deleteE at h
  split at h
  · rename_i kt _ _
    cases hkk : keyKind P kt k
    · rw [hkk] at h; cases h
    · rw [hkk] at h
      simp only [cond_true, Option.some.injEq] at h; subst h; simp
  · rename_i kt _ _ _
    cases hkk : keyKind P kt k
    · rw [hkk] at h; cases h
    · rw [hkk] at h
      simp only [cond_true] at h
      split at h
      · obtain ⟨at', h1, h2⟩ := bindO_some_iff.1 h
        unfold mapDrop at h2
        split at h2
        · rw [wholeK_eq] at h2
          exact setObjE_next (fun H' hn h => by simp only [Option.some.injEq] at h; subst h; simp [hn]) h2
        · exact setObjE_next (fun H' hn h => by simp only [Option.some.injEq] at h; subst h; simp [hn]) h2
      · cases h
  · cases h
theorem rangeE_next {t : TypeId} {x : AV} {r : AV × AH} (h : rangeE P t H x = some r) : H.next ≤ r.2.next := by
  unfold rangeE at h
  split at h
  · rw [newE_eq] at h; simp only [Option.some.injEq] at h; subst h; simp
  · rw [newE_eq] at h; simp only [Option.some.injEq] at h; subst h; simp
  · split at h
    · rw [newE_eq] at h; simp only [Option.some.injEq] at h; subst h; simp
    · cases h
  · cases h
theorem nextE_next {it : AV} {isString : Bool} {r : AV × AH} (h : nextE WB isString H it = some r) : H.next ≤ r.2.next := by
  obtain ⟨b, o, rfl, h1⟩ := onPtr_iff h
  split at h1
  · rename_i s pos _
    unfold nextStr at h1
    cases hlt : Nat.blt pos (lenR s)
    · rw [hlt] at h1; simp only [cond_false, Option.some.injEq] at h1; subst h1; simp
    · rw [hlt] at h1
      simp only [cond_true, decodeE, natK_eq] at h1
      exact setObjE_next (fun H' hn h => by simp only [Option.some.injEq] at h; subst h; simp [hn]) h1
  · simp only [Option.some.injEq] at h1; subst h1; simp
  · rename_i m since seen last _
    unfold nextMap at h1
    split at h1
    · rename_i es clock _
      cases hbad : (!seen.isEmpty && !es.isEmpty && es.all (fun e => Nat.ble last e.2.2))
      · rw [hbad] at h1
        simp only [cond_false] at h1
        split at h1
        · simp only [Option.some.injEq] at h1; subst h1; simp
        · rename_i k v s _
          cases hlt : Nat.blt s since
          · rw [hlt] at h1; cases h1
          · rw [hlt, cond_true, appK_eq] at h1
            exact setObjE_next (fun H' hn h => by simp only [Option.some.injEq] at h; subst h; simp [hn]) h1
        · cases h1
      · rw [hbad] at h1; cases h1
    · cases h1
  · cases h1

theorem chainB_next {call : FuncId → List AV → AH → Res} (hc : ∀ f args H r, call f args H = some r → H.next ≤ r.2.next) {E : Tr AV} {o : Op} {r : AV × AH}
    (h : (chainB P B WB call o).f E H = some r) : H.next ≤ r.2.next := by
  cases o <;> simp only [chainB, reduceCtorEq] at h
  case store t x y =>
    obtain ⟨p, h1, h2⟩ := bindO_some_iff.1 h
    obtain ⟨v, h3, h4⟩ := bindO_some_iff.1 h2
    exact storeE_next h4
  case mapUpdate t m k x =>
    obtain ⟨u1, h1, h2⟩ := bindO_some_iff.1 h
    obtain ⟨u2, h3, h4⟩ := bindO_some_iff.1 h2
    obtain ⟨u3, h5, h6⟩ := bindO_some_iff.1 h4
    exact mapUpdateE_next h6
  case insert t m k x =>
    obtain ⟨u1, h1, h2⟩ := bindO_some_iff.1 h
    obtain ⟨u2, h3, h4⟩ := bindO_some_iff.1 h2
    obtain ⟨u3, h5, h6⟩ := bindO_some_iff.1 h4
    exact mapUpdateE_next h6
  case range t x =>
    obtain ⟨u1, h1, h2⟩ := bindO_some_iff.1 h
    exact rangeE_next h2
  case next it isS =>
    obtain ⟨u1, h1, h2⟩ := bindO_some_iff.1 h
    exact nextE_next h2
  case call c =>
    unfold callChain at h
    split at h
    · obtain ⟨l, h1, h2⟩ := bindO_some_iff.1 h
      unfold callBuiltin at h2
      split at h2
      · split at h2
        · obtain ⟨x, y, rfl, h3⟩ := two2_iff h2
          exact appendE_next h3
        · cases h2
      · split at h2
        · obtain ⟨x, y, rfl, h3⟩ := two2_iff h2
          exact copyE_next h3
        · cases h2
      · split at h2
        · obtain ⟨x, y, rfl, h3⟩ := two2_iff h2
          exact deleteE_next h3
        · cases h2
      · cases h2
    · obtain ⟨l, h1, h2⟩ := bindO_some_iff.1 h
      exact hc _ _ _ _ h2
    · obtain ⟨l, h1, h2⟩ := bindO_some_iff.1 h
      obtain ⟨fv, h3, h4⟩ := bindO_some_iff.1 h2
      unfold onFunc at h4
      split at h4
      · exact hc _ _ _ _ h4
      · cases h4
    · obtain ⟨l, h1, h2⟩ := bindO_some_iff.1 h
      obtain ⟨u, h3, h4⟩ := bindO_some_iff.1 h2
      split at h4
      · obtain ⟨f, h5, h6⟩ := bindO_some_iff.1 h4
        exact hc _ _ _ _ h6
      · cases h4

/-! Every operation. -/
theorem opB_next {call : FuncId → List AV → AH → Res} (hc : ∀ f args H r, call f args H = some r → H.next ≤ r.2.next) {E : Tr AV} {o : Op} {r : AV × AH}
    (h : (opB P B WB call o).f E H = some r) : H.next ≤ r.2.next := by
  unfold opB at h
  split at h
  · obtain ⟨v, h1, h2⟩ := bindO_some_iff.1 h
    simp only [Option.some.injEq] at h2; subst h2; simp
  · obtain ⟨v, h1, h2⟩ := bindO_some_iff.1 h
    simp only [Option.some.injEq] at h2; subst h2; simp
  · obtain ⟨v, h1, h2⟩ := bindO_some_iff.1 h
    rw [newE_eq] at h2
    simp only [Option.some.injEq] at h2; subst h2; simp
  · exact chainB_next hc h

theorem yld_aft {s : Sem Next} {v : AV} (hr : HR B WB D ρ H w) (h : YldN P D ρ w.shape? w s v) : SDoes P s w (Aft B WB D ρ H w (v, H)) := by
  obtain ⟨v', h1, h2⟩ := h
  exact .inl ⟨_, v', w, h1, .inl rfl, D, ρ, hr, h2, Stp.refl _ _ _ _⟩

theorem alloc_aft {E : Tr AV} {a : Act} {o : Oper} {m : Made} (hr : HR B WB D ρ H w) (he : ER nt D ρ w.shape? E a) (hf : Free D H.next (H.next + 1)) (h : (allocB P B o.op).f E = some m) :
    SDoes P (execOp a.eval o) w (Aft B WB D ρ H w (m.1 H.next, ⟨H.m.set H.next (some m.2), H.next + 1⟩)) := by
  obtain ⟨v', w', r, h1, h2, h3, h4⟩ := allocB_ok hr he hf h
  obtain ⟨h5, h6⟩ := alloc_hr hr hf h2 h3
  exact .inl ⟨_, v', w', h1, .inl rfl, _, _, h5, h4, h6⟩

theorem opB_ok {call : FuncId → List AV → AH → Res} (hc : CallOk P B WB call) (hr : HR B WB D ρ H w) {E : Tr AV} {a : Act} (he : ER nt D ρ w.shape? E a) {o : Oper} {r : AV × AH}
    (h : (opB P B WB call o.op).f E H = some r) (hf : Free D H.next r.2.next) : SDoes P (execOp a.eval o) w (Aft B WB D ρ H w r) := by
  unfold opB at h
  split at h
  · obtain ⟨v, h1, h2⟩ := bindO_some_iff.1 h
    simp only [Option.some.injEq] at h2; subst h2
    exact yld_aft hr (pureB_ok hr.low he h1)
  · obtain ⟨v, h1, h2⟩ := bindO_some_iff.1 h
    simp only [Option.some.injEq] at h2; subst h2
    exact yld_aft hr (readB_ok hr he h1)
  · obtain ⟨m, h1, h2⟩ := bindO_some_iff.1 h
    rw [newE_eq] at h2
    simp only [Option.some.injEq] at h2; subst h2
    exact alloc_aft hr he hf h1
  · exact chainB_ok hc hr he h hf

/-- What an operation comes to, put on. -/
theorem SDoes.wp {o : Oper} {a : Act} {R : Value → World → Prop} {K : Act → World → Prop} {Q : Exit → Act → World → Prop} (h : SDoes P (execOp a.eval o) w R)
    (hk : ∀ v w', R v w' → K (a.put o.dst v) w') : o.wp P a w K Q := by
  unfold Oper.wp
  rcases h with ⟨n, v', w', h1, h2, h3⟩ | ⟨g, as, w', h1, h2⟩
  · rw [h1]
    rcases h2 with rfl | ⟨rfl, rfl⟩
    · exact hk _ _ h3
    · exact hk _ _ h3
  · rw [h1]
    refine Calls.mono h2 fun e w'' ⟨v, h3, h4⟩ => ?_
    subst h3
    exact hk _ _ h4

/-! The temporaries. -/
theorem ER.grow {sh sh' : Nat → Option (TypeId × Nat)} {D' : Nat → Prop} {ρ' : Nat → Nat} {E : Tr AV} {a : Act} (he : ER nt D ρ sh E a) (g : Grow D D' ρ ρ' sh sh') : ER nt D' ρ' sh' E a :=
  ⟨he.size, fun t v h => let ⟨v', h1, h2⟩ := he.get t v h; ⟨v', h1, h2.grow g⟩⟩

theorem putB_iff {dst : Option Tmp} {v : AV} {E : Tr AV} {k : Tr AV → RegRes} {r : Tr AV × AH} (h : (putB nt dst).f v E k = some r) :
    (dst = none ∧ k E = some r) ∨ ∃ d, dst = some d ∧ d < nt ∧ k (E.set d (some v)) = some r := by
  cases dst with
  | none => exact .inl ⟨rfl, h⟩
  | some d =>
    simp only [putB] at h
    cases hd : Nat.blt d nt
    · rw [hd] at h; cases h
    · rw [hd] at h
      simp only [cond_true, Tr.setK_set] at h
      exact .inr ⟨d, rfl, by rw [Nat.blt_eq] at hd; exact hd, h⟩

theorem ER.put {sh : Nat → Option (TypeId × Nat)} {E : Tr AV} {a : Act} {d : Tmp} {v : AV} {v' : Value} (he : ER nt D ρ sh E a) (hd : d < nt) (hv : VR D ρ sh v v') :
    ER nt D ρ sh (E.set d (some v)) (a.put (some d) v') := by
  refine ⟨by simp [Act.put, he.size], fun t u h => ?_⟩
  rw [Tr.get_set] at h
  by_cases ht : t = d
  · subst ht
    simp only [if_true, Option.some.injEq] at h; subst h
    exact ⟨v', by simp [Act.put, he.size, hd], hv⟩
  · rw [if_neg ht] at h
    obtain ⟨u', h1, h2⟩ := he.get t u h
    refine ⟨u', ?_, h2⟩
    have : d ≠ t := fun e => ht e.symm
    simp [Act.put, Array.getElem?_setIfInBounds_ne this, h1]

theorem wantE_ok {sh : Nat → Option (TypeId × Nat)} {ops : Array Oper} {o : Oper} {E : Tr AV} {a : Act} (he : ER nt D ρ sh E a) {b : Bool} (h : (wantE ops o).f E = some b) :
    Region.wanted o (yielded ops a.tmps) = b := by
  unfold wantE at h
  split at h
  · rename_i hg
    simp only [Option.some.injEq] at h; subst h
    simp [Region.wanted, hg]
  · rename_i j want hg
    split at h
    · rename_i d hd
      obtain ⟨v, h1, h2⟩ := bindO_some_iff.1 h
      obtain ⟨v', h3, h4⟩ := he.get d v h1
      unfold wantV at h2
      split at h2
      · simp only [Option.some.injEq] at h2; subst h2
        cases h4
        simp only [Region.wanted, hg, yielded, hd, Option.bind_some, h3]
        rename_i b
        cases b <;> cases want <;> rfl
      · simp only [Option.some.injEq] at h2; subst h2
        cases h4
        simp only [Region.wanted, hg, yielded, hd, Option.bind_some, h3]
        cases want <;> rfl
      · cases h2
    · cases h

/-! Regions in one order. -/
theorem opsB_cons (nt : Nat) (call : FuncId → List AV → AH → Res) (ops : Array Oper) (o : Oper) (l : List Oper) : opsB P B WB call nt ops (o :: l) = (match o.guard with
      | none => ⟨opStep P B WB call nt o (opsB P B WB call nt ops l)⟩
      | some _ => ⟨fun E H => bindO ((wantE ops o).f E) fun b => bif b then opStep P B WB call nt o (opsB P B WB call nt ops l) E H else opSkip nt o (opsB P B WB call nt ops l) E H⟩) := rfl

theorem opsB_iff {call : FuncId → List AV → AH → Res} {ops : Array Oper} {o : Oper} {l : List Oper} {E : Tr AV} {r : Tr AV × AH} (h : (opsB P B WB call nt ops (o :: l)).f E H = some r) :
    ∃ b, (wantE ops o).f E = some b ∧ ((b = true ∧ opStep P B WB call nt o (opsB P B WB call nt ops l) E H = some r) ∨ (b = false ∧ opSkip nt o (opsB P B WB call nt ops l) E H = some r)) := by
  rw [opsB_cons] at h
  split at h
  · rename_i hg
    exact ⟨true, by simp [wantE, hg], .inl ⟨rfl, h⟩⟩
  · obtain ⟨b, h1, h2⟩ := bindO_some_iff.1 h
    cases b
    · exact ⟨false, h1, .inr ⟨rfl, h2⟩⟩
    · exact ⟨true, h1, .inl ⟨rfl, h2⟩⟩

theorem opsB_next {call : FuncId → List AV → AH → Res} (hc : ∀ f args H r, call f args H = some r → H.next ≤ r.2.next) {ops : Array Oper} : ∀ {l : List Oper} {E : Tr AV} {H : AH} {r : Tr AV × AH},
    (opsB P B WB call nt ops l).f E H = some r → H.next ≤ r.2.next
  | [], E, H, r, h => by
    have h' : some (E, H) = some r := h
    simp only [Option.some.injEq] at h'; subst h'; simp
  | o :: l, E, H, r, h => by
    obtain ⟨b, _, ⟨_, h1⟩ | ⟨_, h1⟩⟩ := opsB_iff h
    · obtain ⟨q, h2, h3⟩ := bindO_some_iff.1 h1
      have h4 := opB_next hc h2
      rcases putB_iff h3 with ⟨_, h5⟩ | ⟨_, _, _, h5⟩
      · exact Nat.le_trans h4 (opsB_next hc h5)
      · exact Nat.le_trans h4 (opsB_next hc h5)
    · rcases putB_iff h1 with ⟨_, h5⟩ | ⟨_, _, _, h5⟩
      · exact opsB_next hc h5
      · exact opsB_next hc h5

/-- Where a piece of code comes to. -/
def Comes' (B WB nt : Nat) (D : Nat → Prop) (ρ : Nat → Nat) (H : AH) (w : World) (E' : Tr AV) (H' : AH) (df : List Deferred) (a' : Act) (w' : World) : Prop :=
  ∃ D' ρ', HR B WB D' ρ' H' w' ∧ ER nt D' ρ' w'.shape? E' a' ∧ Stp WB D ρ H w D' ρ' H' w' ∧ a'.defers = df

theorem Free.sub {a b a' b' : Nat} (h : Free D a b) (h1 : a ≤ a') (h2 : b' ≤ b) : Free D a' b' := fun n hn hh => h n hn ⟨by omega, by omega⟩
theorem Stp.free {D' : Nat → Prop} {ρ' : Nat → Nat} {H' : AH} {w' : World} (s : Stp WB D ρ H w D' ρ' H' w') {n : Nat} (h : Free D H.next n) : Free D' H'.next n := by
  intro b hb hh
  rcases s.fresh b hb with hb | ⟨h1, h2⟩
  · exact h b hb ⟨by have := s.next; omega, hh.2⟩
  · omega

theorem put_defers' (a : Act) (d : Option Tmp) (v : Value) : (a.put d v).defers = a.defers := by cases d <;> rfl

theorem opsB_ok {call : FuncId → List AV → AH → Res} (hc : CallOk P B WB call) {ops : Array Oper} {Q : Exit → Act → World → Prop} {r : Tr AV × AH} :
    ∀ (l : List Oper) (k : Nat) (D : Nat → Prop) (ρ : Nat → Nat) (H : AH) (w : World) (E : Tr AV) (a : Act), ops.toList.drop k = l → (opsB P B WB call nt ops l).f E H = some r →
      HR B WB D ρ H w → ER nt D ρ w.shape? E a → Free D H.next r.2.next →
      (∀ a' w', Comes' B WB nt D ρ H w r.1 r.2 a.defers a' w' → Q .normal a' w') → wpOps P ops Q (List.range' k l.length) a w
  | [], k, D, ρ, H, w, E, a, _, h, hr, he, _, hq => by
    have h' : some (E, H) = some r := h
    simp only [Option.some.injEq] at h'; subst h'
    exact hq a w ⟨D, ρ, hr, he, Stp.refl _ _ _ _, rfl⟩
  | o :: l, k, D, ρ, H, w, E, a, hd, h, hr, he, hf, hq => by
    have hk : ops[k]? = some o := by
      rw [← Array.getElem?_toList]
      have : (ops.toList.drop k)[0]? = some o := by rw [hd]; rfl
      simpa using this
    have hd' : ops.toList.drop (k + 1) = l := by
      have : (ops.toList.drop k).drop 1 = l := by rw [hd]; rfl
      simpa [List.drop_drop] using this
    simp only [List.length_cons, List.range'_succ, wpOps_cons, wpOp, hk]
    obtain ⟨b, hw, hb⟩ := opsB_iff h
    have hwant := wantE_ok he hw
    rcases hb with ⟨rfl, h1⟩ | ⟨rfl, h1⟩
    · rw [hwant]
      simp only [if_true]
      refine .inl ?_
      obtain ⟨q, h2, h3⟩ := bindO_some_iff.1 h1
      have hn : q.2.next ≤ r.2.next := by
        rcases putB_iff h3 with ⟨_, h5⟩ | ⟨_, _, _, h5⟩
        · exact opsB_next hc.next h5
        · exact opsB_next hc.next h5
      refine (opB_ok hc hr he h2 (hf.sub (Nat.le_refl _) hn)).wp fun v' w' ⟨D', ρ', h4, h5, h6⟩ => ?_
      have he' := he.grow h6.grow
      have hf' := h6.free hf
      rcases putB_iff h3 with ⟨hdst, h7⟩ | ⟨d, hdst, hlt, h7⟩
      · rw [hdst]
        refine opsB_ok hc l (k + 1) D' ρ' q.2 w' E (a.put none v') hd' h7 h4 he' hf' fun a' w'' ⟨D2, ρ2, h8, h9, h10, h11⟩ => ?_
        exact hq a' w'' ⟨D2, ρ2, h8, h9, Stp.trans hr.dom h4.dom h6 h10, h11⟩
      · rw [hdst]
        refine opsB_ok hc l (k + 1) D' ρ' q.2 w' _ (a.put (some d) v') hd' h7 h4 (he'.put hlt h5) hf' fun a' w'' ⟨D2, ρ2, h8, h9, h10, h11⟩ => ?_
        exact hq a' w'' ⟨D2, ρ2, h8, h9, Stp.trans hr.dom h4.dom h6 h10, h11⟩
    · rw [hwant]
      simp only [Bool.false_eq_true, if_false]
      rcases putB_iff h1 with ⟨hdst, h7⟩ | ⟨d, hdst, hlt, h7⟩
      · rw [hdst]
        exact opsB_ok hc l (k + 1) D ρ H w E (a.put none undef) hd' h7 hr he hf hq
      · rw [hdst]
        exact opsB_ok hc l (k + 1) D ρ H w _ (a.put (some d) undef) hd' h7 hr (he.put hlt vr_undef) hf hq
end
end Go.Ev
