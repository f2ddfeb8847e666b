/- The plain evaluator is sound: operations that only reckon, all of them. -/
import Derived.Test.YtigfokpgohaniaaGreatDoorEvS5
namespace Go.Ev
open Go

section
variable {P : Program}
variable {D : Nat → Prop} {ρ : Nat → Nat} {sh : Nat → Option (TypeId × Nat)} {w : World} {B nt : Nat}

theorem Unary_iff {x : Operand} {g : AV → Option AV} {E : Tr AV} {v : AV} (h : Unary B x g E = some v) : ∃ a, (opnd B x).f E = some a ∧ g a = some v := bindO_some_iff.1 h
theorem Binary_iff {x y : Operand} {g : AV → AV → Option AV} {E : Tr AV} {v : AV} (h : Binary B x y g E = some v) :
    ∃ a b, (opnd B x).f E = some a ∧ (opnd B y).f E = some b ∧ g a b = some v := by
  obtain ⟨a, h1, h2⟩ := bindO_some_iff.1 h
  obtain ⟨b, h3, h4⟩ := bindO_some_iff.1 h2
  exact ⟨a, b, h1, h3, h4⟩

/-- An operation that yields a value, and leaves the world alone. -/
def YldN (P : Program) (D : Nat → Prop) (ρ : Nat → Nat) (sh : Nat → Option (TypeId × Nat)) (w : World) (s : Sem Next) (v : AV) : Prop :=
  ∃ v', s.run P w = .ok (.value v') w ∧ VR D ρ sh v v'

theorem Yld.next {s : Sem Value} {v : AV} (h : Yld P D ρ sh w s v) : YldN P D ρ sh w (do pure (.value (← s))) v := by
  obtain ⟨v', h1, h2⟩ := h
  exact ⟨v', by simp [h1], h2⟩

theorem one1_iff {l : List AV} {a : AV} (h : one1 l = some a) : l = [a] := by
  unfold one1 at h
  split at h
  · simp only [Option.some.injEq] at h; subst h; rfl
  · cases h

theorem ov_of (hl : Low B D ρ) {E : Tr AV} {a : Act} (he : ER nt D ρ sh E a) {x : Option Operand} {v : Option AV} (h : (optB B x).f E = some v) :
    OV D ρ sh v (x.map a.eval) := by
  rcases optB_ok hl he h with ⟨rfl, rfl⟩ | ⟨u, y, rfl, rfl, hu⟩
  · exact .inl ⟨rfl, rfl⟩
  · exact .inr ⟨u, _, rfl, rfl, hu⟩

theorem builtin_one {c : Call} {l : List AV} {a : Act} (hargs : VRL D ρ sh l (c.args.map a.eval).toList) {x : AV} (hx : l = [x]) :
    ∃ x', c.args.map a.eval = #[x'] ∧ VR D ρ sh x x' := by
  subst hx
  generalize c.args.map a.eval = A at hargs
  obtain ⟨L⟩ := A
  cases hargs with | cons _ x' _ l' h1 h2 => cases h2 with | nil => exact ⟨x', rfl, h1⟩

theorem pureB_ok (hl : Low B D ρ) {E : Tr AV} {a : Act} (he : ER nt D ρ sh E a) {o : Oper} {v : AV} (h : (pureB P B o.op).f E = some v) :
    YldN P D ρ sh w (execOp a.eval o) v := by
  obtain ⟨dst, op, type, pos, after, guard⟩ := o
  cases op <;> simp only [pureB, reduceCtorEq] at h <;> simp only [execOp]
  case move x => exact ⟨_, rfl, opnd_ok hl he h⟩
  case assign x => exact ⟨_, rfl, opnd_ok hl he h⟩
  case pick c x y =>
    obtain ⟨u, h1, h2⟩ := bindO_some_iff.1 h
    have hu := opnd_ok hl he h1
    unfold pickE at h2
    split at h2
    · generalize a.eval c = c' at hu
      cases hu
      exact ⟨_, by simp [asBool], opnd_ok hl he h2⟩
    · generalize a.eval c = c' at hu
      cases hu
      exact ⟨_, by simp [asBool], opnd_ok hl he h2⟩
    · cases h2
  case nilCheck x =>
    obtain ⟨u, h1, h2⟩ := Unary_iff h
    have hu := opnd_ok hl he h1
    generalize a.eval x = x' at hu
    unfold nilE at h2
    split at h2
    · simp only [Option.some.injEq] at h2; subst h2
      cases hu with | ptr b o hd => exact ⟨_, rfl, .ptr b o hd⟩
    · simp only [Option.some.injEq] at h2; subst h2
      cases hu with | iface _ _ v' hv => exact ⟨_, rfl, .iface _ _ v' hv⟩
    · simp only [Option.some.injEq] at h2; subst h2
      cases hu with | func _ _ _ a' b' h3 h4 => exact ⟨_, rfl, .func _ _ _ a' b' h3 h4⟩
    · cases h2
  case binOp op t x y yt =>
    obtain ⟨u, v2, h1, h2, h3⟩ := Binary_iff h
    exact (binE_ok (opnd_ok hl he h1) (opnd_ok hl he h2) h3).next
  case unOp op t x =>
    obtain ⟨u, h1, h2⟩ := Unary_iff h
    exact (unE_ok (opnd_ok hl he h1) h2).next
  case convert src dst x =>
    obtain ⟨u, h1, h2⟩ := Unary_iff h
    exact (convE_ok (opnd_ok hl he h1) h2).next
  case makeInterface t x =>
    obtain ⟨u, h1, h2⟩ := Unary_iff h
    have hu := opnd_ok hl he h1
    unfold ifaceE at h2
    split at h2
    · cases h2
    · rename_i d hni hd
      simp only [Option.some.injEq] at h2; subst h2
      refine Yld.next ⟨.iface t (a.eval x), ?_, .iface _ _ _ hu⟩
      simp only [Instr.makeInterface, Sem.run_bind, run_underlying hd, Result.andThen_ok]
      cases d <;> first | rfl | exact absurd hd (hni _)
    · cases h2
  case makeFunc fn first captured =>
    obtain ⟨u, h1, h2⟩ := bindO_some_iff.1 h
    obtain ⟨u2, h3, h4⟩ := bindO_some_iff.1 h2
    simp only [Option.some.injEq] at h4; subst h4
    exact ⟨_, rfl, .func _ _ _ _ _ (opnds_arr hl he h1) (opnds_arr hl he h3)⟩
  case slice t x lo hi mx =>
    obtain ⟨u, h1, h2⟩ := bindO_some_iff.1 h
    obtain ⟨l, h3, h4⟩ := bindO_some_iff.1 h2
    obtain ⟨hh, h5, h6⟩ := bindO_some_iff.1 h4
    obtain ⟨m, h7, h8⟩ := bindO_some_iff.1 h6
    exact (sliceE_ok (opnd_ok hl he h1) (ov_of hl he h3) (ov_of hl he h5) (ov_of hl he h7) h8).next
  case fieldAddr s x f =>
    obtain ⟨u, h1, h2⟩ := Unary_iff h
    exact (fieldAddrE_ok (opnd_ok hl he h1) h2).next
  case field t x f =>
    obtain ⟨u, h1, h2⟩ := Unary_iff h
    exact (fieldE_ok (opnd_ok hl he h1) h2).next
  case indexAddr t x ix =>
    obtain ⟨u, v2, h1, h2, h3⟩ := Binary_iff h
    exact (indexAddrE_ok (opnd_ok hl he h1) (opnd_ok hl he h2) h3).next
  case index t x ix =>
    obtain ⟨u, v2, h1, h2, h3⟩ := Binary_iff h
    exact (indexE_ok (opnd_ok hl he h1) (opnd_ok hl he h2) h3).next
  case build t parts =>
    obtain ⟨u, h1, h2⟩ := bindO_some_iff.1 h
    have hp := opndP_ok hl he h1
    have := buildE_ok (w := w) hp h2
    refine Yld.next ?_
    have e : (parts.map fun x : Nat × Operand => (x.1, a.eval x.2)) = (parts.toList.map fun x => (x.1, a.eval x.2)).toArray := by
      apply Array.ext'; simp
    have e2 : (parts.map fun (i, x) => (i, a.eval x)) = (parts.map fun x : Nat × Operand => (x.1, a.eval x.2)) := rfl
    rw [e2, e]
    exact this
  case typeAssert x xt asserted ok =>
    obtain ⟨u, h1, h2⟩ := Unary_iff h
    exact (assertE_ok (opnd_ok hl he h1) h2).next
  case extract t i =>
    obtain ⟨u, h1, h2⟩ := Unary_iff h
    have hu := opnd_ok hl he h1
    generalize a.eval t = t' at hu
    unfold extractE at h2
    split at h2
    · rw [nth_eq] at h2
      cases hu with | tup _ vs' hv =>
      obtain ⟨v', h3, h4⟩ := hv.get _ _ h2
      refine Yld.next ⟨v', ?_, h4⟩
      have : vs'[i]? = some v' := by rw [← Array.getElem?_toList]; exact h3
      simp [Instr.extract, this]
    · cases h2
  case call c =>
    unfold callPure at h
    split at h
    · rename_i b hb
      have hr : resolve a.eval c type = pure { target := .builtin b c.argTypes type (c.args.map fun | .const _ => true | _ => false), args := c.args.map a.eval } := by
        simp only [resolve, hb]; rfl
      simp only [hr]
      unfold builtinPure at h
      split at h
      · split at h
        · rename_i t ht
          obtain ⟨l, h1, h2⟩ := bindO_some_iff.1 h
          obtain ⟨x, h3, h4⟩ := bindO_some_iff.1 h2
          obtain ⟨x', hx1, hx2⟩ := builtin_one (opnds_arr hl he h1) (one1_iff h3)
          obtain ⟨v', h5, h6⟩ := lenE_ok (w := w) (ty := type) ht hx2 h4
          exact ⟨v', by simp [invoke, builtin, hx1, h5], h6⟩
        · cases h
      · obtain ⟨l, h1, h2⟩ := bindO_some_iff.1 h
        obtain ⟨x, r, hxr, v', h5, h6⟩ := fold1_ok (w := w) (P := P) (g := Builtin.max2) (fun a b a' b' v ha hb h => max2E_ok ha hb h) (opnds_arr hl he h1) h2
        rw [Array.toList_map] at hxr; exact ⟨v', by simp [invoke, builtin, Builtin.max_, hxr, h5], h6⟩
      · obtain ⟨l, h1, h2⟩ := bindO_some_iff.1 h
        obtain ⟨x, r, hxr, v', h5, h6⟩ := fold1_ok (w := w) (P := P) (g := Builtin.min2) (fun a b a' b' v ha hb h => min2E_ok ha hb h) (opnds_arr hl he h1) h2
        rw [Array.toList_map] at hxr; exact ⟨v', by simp [invoke, builtin, Builtin.min_, hxr, h5], h6⟩
      · cases h
    · cases h
end
end Go.Ev
