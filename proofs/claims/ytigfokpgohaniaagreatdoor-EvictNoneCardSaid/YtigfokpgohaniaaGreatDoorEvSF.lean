/- The plain evaluator is sound: regions whose order is drawn. -/
import Derived.Test.YtigfokpgohaniaaGreatDoorEvSF5
namespace Go.Ev
open Go
section
variable {P : Program} {B WB : Nat}
variable {D : Nat → Prop} {ρ : Nat → Nat} {w : World} {nt : Nat} {H : AH}

theorem drawnB_iff {call : FuncId → List AV → AH → Res} {ops : Array Oper} {E : Tr AV} {r : Tr AV × AH} (h : (drawnB P B WB nt call ops).f E H = some r) :
    P.follows .mixedOrders = true ∧ tempsOk ops (masks ops.toList []) [] ops.toList 0 = true ∧ (regB P B WB nt call ops (masks ops.toList []) ops.toList 0).f ⟨E, H, [], [], []⟩ = some r := by
  unfold drawnB at h
  cases h0 : (P.follows .mixedOrders && tempsOk ops (masks ops.toList []) [] ops.toList 0 && Region.noSelect ops)
  · rw [h0] at h; cases h
  · rw [h0] at h
    simp only [Bool.and_eq_true] at h0
    exact ⟨h0.1.1, h0.1.2, h⟩

theorem drawnB_trace {call : FuncId → List AV → AH → Res} {ops : Array Oper} {E : Tr AV} {r : Tr AV × AH} (h : (drawnB P B WB nt call ops).f E H = some r) :
    ∃ st bs vs, st 0 = ⟨E, H, [], [], []⟩ ∧ Trc P B WB nt call ops (masks ops.toList []) st bs vs ∧ r = ((st ops.size).E, allPend (st ops.size).pend (st ops.size).H) := by
  obtain ⟨_, _, h1⟩ := drawnB_iff h
  obtain ⟨st, bs, vs, h2, h3, h4⟩ := trace ops.toList 0 _ h1
  refine ⟨st, bs, vs, h2, fun i o ho => ?_, ?_⟩
  · have := h3 i o (by rw [Array.getElem?_toList]; exact ho)
    rw [Nat.zero_add] at this
    exact this
  · rw [h4, Nat.zero_add, Array.length_toList]

theorem drawnB_next {call : FuncId → List AV → AH → Res} (hc : ∀ f args H r, call f args H = some r → H.next ≤ r.2.next) {ops : Array Oper} {E : Tr AV} {r : Tr AV × AH}
    (h : (drawnB P B WB nt call ops).f E H = some r) : H.next ≤ r.2.next := by
  obtain ⟨st, bs, vs, h1, h2, h3⟩ := drawnB_trace h
  have := h2.mono hc (Nat.zero_le ops.size) (Nat.le_refl _)
  rw [h1] at this
  rw [h3]
  show _ ≤ (allPend _ _).next
  rw [allPend_next]
  exact this

theorem ready_iff {ops : Array Oper} {listed : Array Bool} (hs : listed.size = ops.size) {i : Nat} : i ∈ Region.ready .any ops listed ↔
    ∃ o, ops[i]? = some o ∧ listed[i]? = some false ∧ ∀ e ∈ o.after.toList, Region.binds .any e = true → listed[e.on]? = some true := by
  unfold Region.ready
  rw [List.mem_filter, List.mem_range]
  have hg : ∀ k, listed.getD k false = true ↔ listed[k]? = some true := by
    intro k
    rw [Array.getD_eq_getD_getElem?]
    cases listed[k]? <;> simp
  have hg' : ∀ k, k < ops.size → ((!listed.getD k true) = true ↔ listed[k]? = some false) := by
    intro k hk
    rw [Array.getD_eq_getD_getElem?]
    cases h : listed[k]? with
    | none => rw [Array.getElem?_eq_none_iff] at h; omega
    | some b => cases b <;> simp
  constructor
  · rintro ⟨h1, h2⟩
    rw [Bool.and_eq_true] at h2
    obtain ⟨h2, h3⟩ := h2
    refine ⟨ops[i], Array.getElem?_eq_getElem h1, (hg' i h1).1 h2, fun e he hb => ?_⟩
    rw [Array.getElem?_eq_getElem h1] at h3
    simp only [Option.map_some, Option.getD_some] at h3
    have h4 := (Array.all_eq_true_iff_forall_mem.1 h3) e (by simpa using he)
    rw [hb] at h4
    exact (hg _).1 (by simpa using h4)
  · rintro ⟨o, h1, h2, h3⟩
    have hi := lt_size h1
    refine ⟨hi, ?_⟩
    rw [Bool.and_eq_true]
    refine ⟨(hg' i hi).2 h2, ?_⟩
    rw [h1]
    simp only [Option.map_some, Option.getD_some]
    rw [Array.all_eq_true_iff_forall_mem]
    intro e he
    cases hb : Region.binds .any e
    · rfl
    · simp only [Bool.not_true, Bool.false_or]
      exact (hg _).2 (h3 e (by simpa using he) hb)

section
variable {ops : Array Oper} {ms : List Nat} {call : FuncId → List AV → AH → Res} {st : Nat → RS} {bs : Nat → Bool} {vs : Nat → AV} {D0 : Nat → Prop} {H0 : AH}
variable {ρ0 : Nat → Nat} {w0 : World} {df : List Deferred}

theorem all_orders (c : Ctx P B WB nt call ops ms st bs vs D0 H0) (hd0 : ∀ b, Live H0 b → D0 b) (hw : WB ≤ H0.next) {Q : Exit → Act → World → Prop}
    (hq : ∀ L T D ρ M EL a w, (∀ i, i < ops.size → L i) → St P B WB nt ops ms st bs D0 ρ0 H0 w0 df L T D ρ M EL a w → Q .normal a w) :
    ∀ (fuel : Nat) (listed : Array Bool) (T : Nat) (D : Nat → Prop) (ρ : Nat → Nat) (M : Tr AObj) (EL : Tr AV) (a : Act) (w : World), listed.size = ops.size → listed.toList.countP (fun b => !b) = fuel →
      St P B WB nt ops ms st bs D0 ρ0 H0 w0 df (fun i => listed[i]? = some true) T D ρ M EL a w → wpAny P .any ops Q fuel listed a w := by
  have hall : ∀ (listed : Array Bool), listed.size = ops.size → Region.ready .any ops listed = [] → ∀ i, i < ops.size → listed[i]? = some true := by
    intro listed hs hr i
    induction i using Nat.strongRecOn with
    | ind i ih =>
      intro hi
      have ho : ops[i]? = some ops[i] := Array.getElem?_eq_getElem hi
      cases hl : listed[i]? with
      | none => rw [Array.getElem?_eq_none_iff] at hl; omega
      | some b =>
        cases b
        · exfalso
          have : i ∈ Region.ready .any ops listed := (ready_iff hs).2 ⟨_, ho, hl, fun e he hb => by
            have := c.back i _ e ho he hb
            exact ih e.on this (by omega)⟩
          rw [hr] at this; cases this
        · rfl
  intro fuel
  induction fuel with
  | zero =>
    intro listed T D ρ M EL a w hs hf s
    have h1 : ∀ i, i < ops.size → listed[i]? = some true := by
      intro i hi
      rw [List.countP_eq_zero] at hf
      have h2 : listed[i]? = some listed[i] := Array.getElem?_eq_getElem (by omega)
      rw [h2]
      have := hf listed[i] (by simp)
      simpa using this
    refine ⟨?_, hq _ _ _ _ _ _ _ _ h1 s⟩
    rw [List.eq_nil_iff_forall_not_mem]
    intro i hi
    obtain ⟨o, h2, h3, _⟩ := (ready_iff hs).1 hi
    rw [h1 i (lt_size h2)] at h3; cases h3
  | succ fuel ih =>
    intro listed T D ρ M EL a w hs hf s
    refine ⟨fun h => hq _ _ _ _ _ _ _ _ (hall listed hs h) s, fun i hi => ?_⟩
    obtain ⟨o, h1, h2, h3⟩ := (ready_iff hs).1 hi
    have hil := lt_size h1
    refine s.op c hd0 hw h1 (by rw [h2]; simp) (fun k hk => ?_) fun T' D' ρ' M' EL' a' w' s' => ?_
    · obtain ⟨e, he, hb, h4⟩ := c.spec i o k h1 hk
      have h5 := h3 e he hb
      rcases h4 with h4 | h4
      · rw [← h4]; exact h5
      · exact s.cl e.on h5 k h4
    · have hL : (fun k => (listed.setIfInBounds i true)[k]? = some true) = fun k => (listed[k]? = some true ∨ k = i) := by
        funext k
        rw [Array.getElem?_setIfInBounds]
        by_cases e : i = k
        · subst e
          simp [hs, hil]
        · rw [if_neg e]
          have : ¬ k = i := fun h => e h.symm
          simp [this]
      refine ih (listed.setIfInBounds i true) T' D' ρ' M' EL' a' w' (by simpa using hs) ?_ (by rw [hL]; exact s')
      have hlt : i < listed.toList.length := by simp; omega
      rw [Array.toList_setIfInBounds, List.countP_set hlt, hf]
      have : listed.toList[i] = false := by
        have h5 : listed.toList[i]? = some false := by rw [Array.getElem?_toList]; exact h2
        rw [List.getElem?_eq_getElem hlt] at h5
        exact Option.some.inj h5
      simp [this]
end

theorem drawnB_ok {call : FuncId → List AV → AH → Res} (hc : CallOk P B WB call) {ops : Array Oper} {Q : Exit → Act → World → Prop} {r : Tr AV × AH} {E : Tr AV} {a : Act} {id : Nat}
    (h : (drawnB P B WB nt call ops).f E H = some r) (hr : HR B WB D ρ H w) (he : ER nt D ρ w.shape? E a) (hf : Free D H.next r.2.next)
    (hq : ∀ a' w', Comes' B WB nt D ρ H w r.1 r.2 a.defers a' w' → Q .normal a' w') : (Code.region id ops true).wp P Q a w := by
  obtain ⟨hm, hto, _⟩ := drawnB_iff h
  obtain ⟨st, bs, vs, h1, h2, h3⟩ := drawnB_trace h
  have hrn : r.2.next = (st ops.size).H.next := by rw [h3]; exact allPend_next _ _
  have hx := tempsOk_spec ops.toList [] 0 hto rfl
  simp only [List.nil_append] at hx
  have c : Ctx P B WB nt call ops (masks ops.toList []) st bs vs D H := {
    ht := h2
    hc := hc
    s0H := by rw [h1]
    s0p := by rw [h1]
    s0h := by rw [h1]
    apart := fun i j x y hij hi hj => by
      have h4 := (hx j y (Nat.zero_le _) (by rw [Array.getElem?_toList]; exact hj)).1 i x hij (by rw [Array.getElem?_toList]; exact hi)
      unfold apartOk at h4
      rw [Bool.or_eq_true, Bool.and_eq_true] at h4
      rcases h4 with h4 | ⟨h4, h5⟩
      · exact .inl h4
      · refine .inr ⟨fun d hd => ?_, fun d hd => ?_⟩
        · rw [hd] at h4; simpa using h4
        · rw [hd] at h5; simpa using h5
    back := fun j y e hj he hb => (hx j y (Nat.zero_le _) (by rw [Array.getElem?_toList]; exact hj)).2 e he hb
    spec := fun j y i hj hb => by
      have := masks_spec ops.toList [] j i y (by rw [Array.getElem?_toList]; exact hj) (by simpa using hb)
      exact this
    free := by rw [← hrn]; exact hf }
  have hnx : H.next ≤ (st ops.size).H.next := by
    have := c.mono (Nat.zero_le ops.size) (Nat.le_refl _)
    rwa [h1] at this
  refine wp_region_any hm (all_orders (ρ0 := ρ) (w0 := w) (df := a.defers) c hr.dom hr.wb (fun L T D' ρ' M EL a' w' hall s => ?_) ops.size _ 0 D ρ H.m E a _ (by simp) (by simp [List.countP_replicate]) ?_)
  · have hnc : ∀ k, T ≤ k → k < ops.size → ¬ IsChain P ops bs k := fun k h4 h5 hk => by
      have := (s.ch k hk).1 (hall k h5); omega
    have hsub : ∀ b o, r.2.m.get b = some o → M.get b = some o := by
      intro b o hb
      rw [h3] at hb
      rcases allPend_get _ _ _ _ hb with h4 | ⟨k, h4⟩
      · rw [h2.m_same' s.tn (Nat.le_refl _) hnc] at h4
        exact s.sub b o h4
      · obtain ⟨h5, h6, h7⟩ := h2.pend c.s0p ops.size (Nat.le_refl _) k b o h4
        exact s.pend k b o h5 (hall k h6) fun x hx hc' => h7 x (Nat.lt_of_lt_of_le hx s.tn) hc'
    have hlv : ∀ b, Live r.2 b → Live ⟨M, (st ops.size).H.next⟩ b := fun b ⟨o, hb⟩ => ⟨o, hsub b o hb⟩
    have hE : ∀ t, EL.get t = r.1.get t := by
      intro t
      rw [h3]
      refine s.env t ops.size (Nat.le_refl _) fun i o ho _ => ⟨fun _ => hall i (lt_size ho), fun _ => lt_size ho⟩
    refine hq a' w' ⟨D', ρ', s.hr.part hsub (by rw [hrn]; exact s.hr.wb), ⟨s.er.size, fun t v ht => s.er.get t v (by rw [hE]; exact ht)⟩, ?_, s.dfs⟩
    have st := s.stp
    exact ⟨st.d, st.r, fun b hb => by rw [hrn]; exact st.fresh b hb, by rw [hrn]; exact st.next, st.size, st.shp, st.os, st.tape, st.output, st.frame, fun b hb => st.img b (hlv b hb)⟩
  · have hL : ∀ i : Nat, ¬ (Array.replicate ops.size false)[i]? = some true := by
      intro i
      rw [Array.getElem?_replicate]
      split <;> simp
    exact {
      cl := fun j hj => absurd hj (hL j)
      ch := fun k _ => ⟨fun h => absurd h (hL k), fun h => by omega⟩
      tn := Nat.zero_le _
      hr := ⟨hr.lo, Nat.le_trans hr.wb hnx, hr.inj, hr.dom, hr.obj⟩
      stp := ⟨fun _ h => h, fun _ _ => rfl, fun _ h => .inl h, hnx, Nat.le_refl _, fun _ _ h => h, rfl, rfl, rfl, fun _ _ _ => rfl, fun _ h => .inl h⟩
      er := he
      env := fun t j hj hk => by
        have h4 := h2.E_same (i := 0) (t := t) j (by omega) (fun k o _ h6 ho hd => by
          have := (hk k o ho hd).1 (by omega)
          exact hL k this)
        rw [Nat.zero_add] at h4
        rw [h4, h1]
      sub := fun b o hb => by rw [h1] at hb; exact hb
      away := fun k id' q hk _ => by
        rw [h1]
        cases hg : H.m.get id' with
        | none => rfl
        | some z =>
          exfalso
          obtain ⟨b1, b2, b3⟩ := c.kindAlloc hk
          have e5 := c.mono (Nat.zero_le k) (Nat.le_of_lt b1)
          have e6 := c.mono (i := k + 1) (j := ops.size) b1 (Nat.le_refl _)
          rw [c.s0H] at e5
          exact c.free id' (hr.dom id' ⟨z, hg⟩) ⟨by omega, by omega⟩
      pend := fun k id' q _ hl => absurd hl (hL k)
      ids := fun b hb => .inl hb
      dfs := rfl }
end
end Go.Ev
