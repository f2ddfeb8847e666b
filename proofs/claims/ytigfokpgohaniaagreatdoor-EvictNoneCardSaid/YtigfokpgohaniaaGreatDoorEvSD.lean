/- The plain evaluator is sound: an iterator's next step; operations that write or call. -/
import Derived.Test.YtigfokpgohaniaaGreatDoorEvSC
namespace Go.Ev
open Go

section
variable {P : Program} {B WB : Nat}
variable {D : Nat → Prop} {ρ : Nat → Nat} {w : World} {nt : Nat} {H : AH}

theorem run_getO {r : Nat} {o : Obj} (h : w.heap[r]? = some o) (hc : Obj.shp o = none) : (getObj r).run P w = .ok o w := by
  cases o <;> first | (simp [Obj.shp] at hc; done) | simp [getObj, Sem.run, h]

theorem filter_ok {sh : Nat → Option (TypeId × Nat)} (seen : List Nat) : ∀ {l : List (AV × AV × Nat)} {l' : List MapEntry}, ERL D ρ sh l l' →
    ERL D ρ sh (l.filter fun e => !seen.contains e.2.2) (l'.filter fun e => !seen.toArray.contains e.born)
  | _, _, .nil => .nil
  | _, _, .cons k v s k' v' l l' h1 h2 h => by
    have ih := filter_ok seen h
    simp only [List.filter_cons]
    have e : seen.toArray.contains s = seen.contains s := by simp
    cases hs : seen.contains s
    · simp only [e, hs, Bool.not_false, if_true]
      exact .cons _ _ _ _ _ _ _ h1 h2 ih
    · simp only [e, hs, Bool.not_true, Bool.false_eq_true, if_false]
      exact ih

theorem all_ok {sh : Nat → Option (TypeId × Nat)} (last : Nat) : ∀ {l : List (AV × AV × Nat)} {l' : List MapEntry}, ERL D ρ sh l l' →
    (l.all fun e => Nat.ble last e.2.2) = l'.all fun e => decide (e.born ≥ last)
  | _, _, .nil => rfl
  | _, _, .cons k v s k' v' l l' h1 h2 h => by
    simp only [List.all_cons, all_ok last h]
    congr 1
    rw [Bool.eq_iff_iff]; simp [Nat.ble_eq]

theorem nextE_ok (hr : HR B WB D ρ H w) {it : AV} {it' : Value} {isString : Bool} {ty : TypeId} {r : AV × AH} (hx : VR D ρ w.shape? it it') (h : nextE WB isString H it = some r) :
    YldC P B WB D ρ H w (do pure (.value (← Instr.next it' isString ty))) r := by
  obtain ⟨b, o, rfl, h1⟩ := onPtr_iff h
  cases hx with | ptr _ _ hd =>
  split at h1
  · rename_i s pos hg
    obtain ⟨r0, h3, h4⟩ := hr.obj _ _ hg
    cases h4
    have hg0 := run_getO (P := P) h3 rfl
    unfold nextStr at h1
    rw [lenR_eq] at h1
    cases hlt : Nat.blt pos s.length
    · rw [hlt] at h1
      simp only [cond_false, Option.some.injEq] at h1; subst h1
      have hlt' : ¬ pos < (⟨⟨s⟩⟩ : ByteArray).size := by
        intro e
        have : Nat.blt pos s.length = true := by rw [Nat.blt_eq]; exact e
        rw [this] at hlt; cases hlt
      refine ⟨_, .tuple #[.bool false], w, D, ρ, ?_, .inl rfl, hr, .tup _ #[.bool false] (.one (.bool _)), Stp.refl _ _ _ _⟩
      simp only [Instr.next, Sem.run_bind, hg0, Result.andThen_ok, if_neg hlt', Sem.run_pure]
    · rw [hlt] at h1
      have hlt' : pos < (⟨⟨s⟩⟩ : ByteArray).size := by rw [Nat.blt_eq] at hlt; exact hlt
      simp only [cond_true, decodeE, natK_eq] at h1
      obtain ⟨hwb, h5⟩ := setObjE_iff h1
      simp only [Option.some.injEq] at h5; subst h5
      generalize hdec : Utf8.decode ⟨⟨s⟩⟩ pos = cw at *
      obtain ⟨c, wd⟩ := cw
      obtain ⟨h6, h7⟩ := put_hr hr hg hwb h3 (r := .stringIter ⟨⟨s⟩⟩ (pos + wd)) rfl (.siter s (pos + wd))
      refine ⟨_, .tuple #[.bool true, goInt pos, .int .i32 c], _, D, ρ, ?_, .inl rfl, h6, .tup _ #[.bool true, goInt pos, .int .i32 c] (.cons _ _ _ _ (.bool _) (.cons _ _ _ _ (.int _ _) (.one (.int _ _)))), h7⟩
      simp only [Instr.next, Sem.run_bind, hg0, Result.andThen_ok, if_pos hlt', hdec]
      rw [run_setObj h3 rfl]
      rfl
  · rename_i hg
    obtain ⟨r0, h3, h4⟩ := hr.obj _ _ hg
    cases h4
    have hg0 := run_getO (P := P) h3 rfl
    simp only [Option.some.injEq] at h1; subst h1
    refine ⟨_, .tuple #[.bool false], w, D, ρ, ?_, .inl rfl, hr, .tup _ #[.bool false] (.one (.bool _)), Stp.refl _ _ _ _⟩
    simp only [Instr.next, Sem.run_bind, hg0, Result.andThen_ok, Sem.run_pure]
  · rename_i m since seen last hg
    obtain ⟨r0, h3, h4⟩ := hr.obj _ _ hg
    cases h4 with | miter _ _ _ _ hdm =>
    have hg0 := run_getO (P := P) h3 rfl
    unfold nextMap at h1
    split at h1
    · rename_i es clock hgm
      obtain ⟨r1, h5, h6⟩ := hr.obj _ _ hgm
      cases h6 with | map _ _ es' h7 =>
      have hgm' := run_getMap (P := P) h5
      cases hbad : (!seen.isEmpty && !es.isEmpty && es.all (fun e => Nat.ble last e.2.2))
      · rw [hbad] at h1
        simp only [cond_false] at h1
        have hbad' : (!seen.toArray.isEmpty && !es'.isEmpty && es'.all (fun e => decide (e.born ≥ last))) = false := by
          rw [← hbad]
          have e1 : seen.toArray.isEmpty = seen.isEmpty := by cases seen <;> rfl
          have e2 : es'.isEmpty = es.isEmpty := by
            have hl := h7.length
            rw [Bool.eq_iff_iff]
            simp only [Array.isEmpty_iff, List.isEmpty_iff]
            constructor
            · intro e; subst e; exact List.length_eq_zero_iff.1 (by simpa using hl)
            · intro e; subst e; exact Array.size_eq_zero_iff.1 (by simpa using hl.symm)
          have e3 : es'.all (fun e => decide (e.born ≥ last)) = es.all (fun e => Nat.ble last e.2.2) := by
            rw [all_ok last h7, ← Array.all_toList]
          rw [e1, e2, e3]
        have hf := filter_ok seen h7
        have hleft : (es'.filter fun e => !seen.toArray.contains e.born).toList = es'.toList.filter fun e => !seen.toArray.contains e.born := Array.toList_filter
        split at h1
        · rename_i hnil
          simp only [Option.some.injEq] at h1; subst h1
          rw [hnil] at hf
          have hl0 : (es'.filter fun e => !seen.toArray.contains e.born) = #[] := by
            apply Array.ext'
            rw [hleft]
            generalize es'.toList.filter (fun e => !seen.toArray.contains e.born) = L at hf
            cases hf; rfl
          refine ⟨_, .tuple #[.bool false], w, D, ρ, ?_, .inl rfl, hr, .tup _ #[.bool false] (.one (.bool _)), Stp.refl _ _ _ _⟩
          simp only [Instr.next, Sem.run_bind, hg0, Result.andThen_ok, hgm', hbad', Bool.false_eq_true, if_false, hl0]
          simp [Question.forced]
        · rename_i k v s hone
          rw [hone] at hf
          cases hlt : Nat.blt s since
          · rw [hlt] at h1; simp at h1
          · rw [hlt] at h1
            rw [Nat.blt_eq] at hlt
            simp only [cond_true, appK_eq] at h1
            obtain ⟨hwb, h8⟩ := setObjE_iff h1
            simp only [Option.some.injEq] at h8; subst h8
            obtain ⟨e', hl0, hk, hv, hs⟩ : ∃ e' : MapEntry, (es'.filter fun e => !seen.toArray.contains e.born) = #[e'] ∧ VR D ρ w.shape? k e'.key ∧ VR D ρ w.shape? v e'.val ∧ e'.born = s := by
              generalize hL : es'.toList.filter (fun e => !seen.toArray.contains e.born) = L at hf
              cases hf with | cons _ _ _ k' v' _ _ a1 a2 a3 => cases a3 with | nil =>
              exact ⟨⟨k', v', s⟩, by apply Array.ext'; rw [hleft, hL], a1, a2, rfl⟩
            obtain ⟨h9, h10⟩ := put_hr hr hg hwb h3 (r := .mapIter (some (ρ m)) since (seen.toArray.push e'.born) clock) rfl (by
              have := OR.miter (D := D) (ρ := ρ) (sh := w.shape?) m since (seen ++ [s]) clock hdm
              have e : (seen ++ [s]).toArray = seen.toArray.push e'.born := by rw [hs]; simp
              rw [e] at this; exact this)
            refine ⟨_, .tuple #[.bool true, e'.key, e'.val], _, D, ρ, ?_, .inl rfl, h9, .tup _ #[.bool true, e'.key, e'.val] ?_, h10⟩
            · have o1 : ((#[e'] : Array MapEntry).filter fun x => decide (x.born < since)) = #[e'] := by simp [hs, hlt]
              have o2 : ((#[e'] : Array MapEntry).filter fun x => decide (x.born ≥ since)) = #[] := by simp [hs]; omega
              simp only [Instr.next, Sem.run_bind, hg0, Result.andThen_ok, hgm', hbad', Bool.false_eq_true, if_false, hl0, o1, o2]
              simp [Question.forced]
              rw [run_setObj h3 rfl]
              rfl
            · have hsh : (put w (ρ b) (.mapIter (some (ρ m)) since (seen.toArray.push e'.born) clock)).shape? = w.shape? := funext fun i => put_shape (r := .mapIter (some (ρ m)) since (seen.toArray.push e'.born) clock) h3 rfl i
              rw [hsh]
              exact .cons _ _ _ _ (.bool _) (.cons _ _ _ _ hk (.one hv))
        · cases h1
      · rw [hbad] at h1; simp at h1
    · cases h1
  · cases h1

/-- What a computation comes to: a value, nothing, or a call that returns. -/
def SDoes (P : Program) (s : Sem Next) (w : World) (R : Value → World → Prop) : Prop :=
  (∃ n v' w', s.run P w = .ok n w' ∧ IsV n v' ∧ R v' w') ∨
  (∃ g as w', s.run P w = .ok (.enter g as) w' ∧ Calls P g as w' fun e w'' => ∃ v, e = .returned v ∧ R v w'')

theorem SDoes.mono {s : Sem Next} {R R' : Value → World → Prop} (h : SDoes P s w R) (hr : ∀ v w', R v w' → R' v w') : SDoes P s w R' := by
  rcases h with ⟨n, v', w', h1, h2, h3⟩ | ⟨g, as, w', h1, h2⟩
  · exact .inl ⟨n, v', w', h1, h2, hr _ _ h3⟩
  · exact .inr ⟨g, as, w', h1, h2.mono fun e w'' ⟨v, h3, h4⟩ => ⟨v, h3, hr _ _ h4⟩⟩

/-- A state behind an operation. -/
def Aft (B WB : Nat) (D : Nat → Prop) (ρ : Nat → Nat) (H : AH) (w : World) (r : AV × AH) (v' : Value) (w' : World) : Prop :=
  ∃ D' ρ', HR B WB D' ρ' r.2 w' ∧ VR D' ρ' w'.shape? r.1 v' ∧ Stp WB D ρ H w D' ρ' r.2 w'

theorem YldC.does {s : Sem Next} {r : AV × AH} (h : YldC P B WB D ρ H w s r) : SDoes P s w (Aft B WB D ρ H w r) := by
  obtain ⟨n, v', w', D', ρ', h1, h2, h3, h4, h5⟩ := h
  exact .inl ⟨n, v', w', h1, h2, D', ρ', h3, h4, h5⟩

/-- What is asked of the functions that are called. -/
structure CallOk (P : Program) (B WB : Nat) (call : FuncId → List AV → AH → Res) : Prop where
  next : ∀ f args H r, call f args H = some r → H.next ≤ r.2.next
  does : ∀ f args H r, call f args H = some r → ∀ D ρ w (args' : Array Value), HR B WB D ρ H w → VRL D ρ w.shape? args args'.toList → Free D H.next r.2.next →
    SDoes P (callFunc f args') w (Aft B WB D ρ H w r)

theorem run_resolve_builtin {c : Call} {b : Builtin} {type : TypeId} {a : Act} (hb : c.callee = .builtin b) :
    resolve a.eval c type = pure { target := .builtin b c.argTypes type (c.args.map fun | .const _ => true | _ => false), args := c.args.map a.eval } := by
  simp only [resolve, hb]; rfl

theorem two2_iff {l : List AV} {k : AV → AV → Res} {r : AV × AH} (h : two2 l k = some r) : ∃ a b, l = [a, b] ∧ k a b = some r := by
  unfold two2 at h
  split at h
  · exact ⟨_, _, rfl, h⟩
  · cases h

theorem args_two {sh : Nat → Option (TypeId × Nat)} {A : Array Value} {a b : AV} (h : VRL D ρ sh [a, b] A.toList) : ∃ a' b', A = #[a', b'] ∧ VR D ρ sh a a' ∧ VR D ρ sh b b' := by
  obtain ⟨L⟩ := A
  cases h with | cons _ a' _ l' h1 h2 => cases h2 with | cons _ b' _ l2 h3 h4 => cases h4 with | nil => exact ⟨a', b', rfl, h1, h3⟩

theorem methodE_ok {t : TypeId} {name : String} {f : FuncId} {v' : Value} (h : methodE P t name = some f) :
    (method (P.types.size + Made.depth) t v' name).run P w = .ok (f, v') w := by
  unfold methodE at h
  split at h
  · rename_i i d hi hu
    cases hp : isPtrT d
    · rw [hp] at h
      simp only [cond_false] at h
      split at h
      · rename_i m hm
        cases hmp : m.path.isEmpty
        · rw [hmp] at h; simp at h
        · rw [hmp] at h
          simp only [cond_true] at h
          split at h
          · rename_i g hf
            simp only [Option.some.injEq] at h; subst h
            have hpath : m.path.toList = [] := by
              have := Array.isEmpty_iff.1 hmp
              rw [this]
            obtain ⟨n, hn⟩ : ∃ n, P.types.size + Made.depth = n + 1 := by
              refine ⟨P.types.size + Made.depth - 1, ?_⟩
              have : 0 < Made.depth := by decide
              omega
            rw [hn]
            simp only [method, Sem.run_bind, run_info hi, Result.andThen_ok, hm, hpath, follow, Sem.run_pure, hf, receiverAt, run_underlying hu]
            cases d <;> first | (simp [isPtrT] at hp; done) | rfl
          · cases h
      · cases h
    · rw [hp] at h; simp at h
  · cases h

theorem VRL.appArr {sh : Nat → Option (TypeId × Nat)} {x y : List AV} {X Y : Array Value} (h1 : VRL D ρ sh x X.toList) (h2 : VRL D ρ sh y Y.toList) : VRL D ρ sh (x ++ y) (X ++ Y).toList := by
  rw [Array.toList_append]; exact h1.app h2

theorem chainB_ok {call : FuncId → List AV → AH → Res} (hc : CallOk P B WB call) (hr : HR B WB D ρ H w) {E : Tr AV} {a : Act} (he : ER nt D ρ w.shape? E a) {o : Oper} {r : AV × AH}
    (h : (chainB P B WB call o.op).f E H = some r) (hf : Free D H.next r.2.next) : SDoes P (execOp a.eval o) w (Aft B WB D ρ H w r) := by
  have hl := hr.low
  obtain ⟨dst, op, type, pos, after, guard⟩ := o
  cases op <;> simp only [chainB, reduceCtorEq] at h <;> simp only [execOp]
  case store t x y =>
    obtain ⟨p, h1, h2⟩ := bindO_some_iff.1 h
    obtain ⟨v, h3, h4⟩ := bindO_some_iff.1 h2
    exact (storeE_ok hr (opnd_ok hl he h1) (opnd_ok hl he h3) h4).does
  case mapUpdate t m k x =>
    obtain ⟨u1, h1, h2⟩ := bindO_some_iff.1 h
    obtain ⟨u2, h3, h4⟩ := bindO_some_iff.1 h2
    obtain ⟨u3, h5, h6⟩ := bindO_some_iff.1 h4
    exact (mapUpdateE_ok hr (opnd_ok hl he h1) (opnd_ok hl he h3) (opnd_ok hl he h5) h6).does
  case insert t m k x =>
    obtain ⟨u1, h1, h2⟩ := bindO_some_iff.1 h
    obtain ⟨u2, h3, h4⟩ := bindO_some_iff.1 h2
    obtain ⟨u3, h5, h6⟩ := bindO_some_iff.1 h4
    exact (mapUpdateE_ok hr (opnd_ok hl he h1) (opnd_ok hl he h3) (opnd_ok hl he h5) h6).does
  case range t x =>
    obtain ⟨u1, h1, h2⟩ := bindO_some_iff.1 h
    exact (rangeE_ok hr (opnd_ok hl he h1) h2 hf).does
  case next it isS =>
    obtain ⟨u1, h1, h2⟩ := bindO_some_iff.1 h
    exact (nextE_ok hr (opnd_ok hl he h1) h2).does
  case call c =>
    unfold callChain at h
    split at h
    · rename_i b hb
      obtain ⟨l, h1, h2⟩ := bindO_some_iff.1 h
      have hargs := opnds_arr hl he h1
      rw [run_resolve_builtin hb]
      unfold callBuiltin at h2
      split at h2
      · split at h2
        · rename_i sT xT hs hx
          obtain ⟨x, y, rfl, h3⟩ := two2_iff h2
          obtain ⟨x', y', hA, hx', hy'⟩ := args_two hargs
          have := (appendE_ok (ty := type) hr hs hx hx' hy' h3 hf).does
          simpa [invoke, builtin, hA] using this
        · cases h2
      · split at h2
        · rename_i dT hs
          obtain ⟨x, y, rfl, h3⟩ := two2_iff h2
          obtain ⟨x', y', hA, hx', hy'⟩ := args_two hargs
          have := (copyE_ok (ty := type) hr hs hx' hy' h3).does
          simpa [invoke, builtin, hA] using this
        · cases h2
      · split at h2
        · rename_i dT hs
          obtain ⟨x, y, rfl, h3⟩ := two2_iff h2
          obtain ⟨x', y', hA, hx', hy'⟩ := args_two hargs
          have := (deleteE_ok (ty := type) hr hs hx' hy' h3).does
          simpa [invoke, builtin, hA] using this
        · cases h2
      · cases h2
    · rename_i f hv
      obtain ⟨l, h1, h2⟩ := bindO_some_iff.1 h
      have hargs := opnds_arr hl he h1
      have := hc.does f l H r h2 D ρ w (#[] ++ c.args.map a.eval ++ #[]) hr (by simpa using hargs) hf
      have hres : resolve a.eval c type = pure { target := .fn (.func f) #[], args := #[] ++ c.args.map a.eval } := by
        simp only [resolve, hv, Act.eval, Deferred.ofValue]
      rw [hres]
      simpa [invoke] using this
    · rename_i f _ hv
      obtain ⟨l, h1, h2⟩ := bindO_some_iff.1 h
      obtain ⟨fv, h3, h4⟩ := bindO_some_iff.1 h2
      have hargs := opnds_arr hl he h1
      have hfv := opnd_ok hl he h3
      unfold onFunc at h4
      split at h4
      · rename_i g first cap
        generalize hfe : a.eval f = f' at hfv
        cases hfv with | func _ _ _ first' cap' h5 h6 =>
        have := hc.does g _ H r h4 D ρ w (first' ++ c.args.map a.eval ++ cap') hr ((h5.appArr hargs).appArr h6) hf
        have hres : resolve a.eval c type = pure { target := .fn (.func g) cap', args := first' ++ c.args.map a.eval } := by
          simp only [resolve, hv, hfe, Deferred.ofValue]
        rw [hres]
        simpa [invoke] using this
      · cases h4
    · rename_i rv name hv
      obtain ⟨l, h1, h2⟩ := bindO_some_iff.1 h
      obtain ⟨u, h3, h4⟩ := bindO_some_iff.1 h2
      have hargs := opnds_arr hl he h1
      have hu := opnd_ok hl he h3
      split at h4
      · rename_i t v
        obtain ⟨f, h5, h6⟩ := bindO_some_iff.1 h4
        generalize hfe : a.eval rv = r' at hu
        cases hu with | iface _ _ v' hv' =>
        have := hc.does f _ H r h6 D ρ w (#[v'] ++ c.args.map a.eval) hr (by
          have : VRL D ρ w.shape? ([v] ++ l) (#[v'] ++ c.args.map a.eval).toList := VRL.appArr (X := #[v']) (.one hv') hargs
          exact this) hf
        have hres : resolve a.eval c type = pure { target := .fn (.method name) #[], args := #[Value.iface t v'] ++ c.args.map a.eval } := by
          simp only [resolve, hv, hfe]
        rw [hres]
        have e1 : ((#[Value.iface t v'] ++ c.args.map a.eval)[0]? : Option Value) = some (.iface t v') := by rw [Array.getElem?_append_left (by simp)]; rfl
        have e2 : (#[Value.iface t v'] ++ c.args.map a.eval).extract 1 (#[Value.iface t v'] ++ c.args.map a.eval).size = c.args.map a.eval := by
          apply Array.ext'
          simp
          exact List.take_of_length_le (by simp)
        have hrun : (invoke (.fn (.method name) #[]) (#[Value.iface t v'] ++ c.args.map a.eval)).run P w = (callFunc f (#[v'] ++ c.args.map a.eval)).run P w := by
          simp only [invoke, e1, e2, callMethod, Sem.run_bind, run_program, Result.andThen_ok, methodE_ok h5]
        have hrun2 : ((do let d ← (pure { target := .fn (.method name) #[], args := #[Value.iface t v'] ++ c.args.map a.eval } : Sem Deferred); invoke d.target d.args) : Sem Next).run P w = (callFunc f (#[v'] ++ c.args.map a.eval)).run P w := by
          rw [← hrun]; simp
        unfold SDoes at this ⊢
        rw [hrun2]
        exact this
      · cases h4
end
end Go.Ev
