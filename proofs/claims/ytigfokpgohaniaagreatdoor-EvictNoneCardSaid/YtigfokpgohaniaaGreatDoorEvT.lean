/- The plain evaluator: functions that are not walked into, by their contracts; a law's call. -/
import Derived.Test.YtigfokpgohaniaaGreatDoorEvSG
import Derived.Below
import Derived.Lib.Repeat
namespace Go.Ev
open Go Go.RowKit
section
variable {P : Program} {B WB : Nat}

theorem run_call {f : FuncId} {fn : Func} (hfn : P.funcs[f]? = some fn) (hb : fn.body.isSome = true) (hname : (fn.name == "runtime.NumGoroutine") = false) (args : Array Value) (w : World) :
    (callFunc f args).run P w = .ok (.enter f args) w := by
  obtain ⟨c, hc⟩ := Option.isSome_iff_exists.1 hb
  simp only [callFunc, Sem.run_bind, run_program, Result.andThen_ok, hfn, hname, hc]
  simp

/-- Nothing that was there has turned. -/
theorem below_hr {D : Nat → Prop} {ρ : Nat → Nat} {H : AH} {w w' : World} (hr : HR B WB D ρ H w) (h : Below w.heap.size w w') : HR B WB D ρ H w' ∧ Stp WB D ρ H w D ρ H w' := by
  have hs : ∀ r x, w.shape? r = some x → w'.shape? r = some x := by
    intro r x hx
    have hlt := lt_of_shape hx
    rw [shape_of (h.block r hlt)]
    exact hx
  refine ⟨⟨hr.lo, hr.wb, hr.inj, hr.dom, fun b o hb => ?_⟩, ⟨fun _ h => h, fun _ _ => rfl, fun _ h => .inl h, Nat.le_refl _, h.size, hs, h.os, h.tape, h.output, fun r hr' _ => h.block r hr', fun _ h => .inl h⟩⟩
  obtain ⟨r, h1, h2⟩ := hr.obj b o hb
  exact ⟨r, by rw [h.block _ (lt_of_get h1)]; exact h1, h2.grow ⟨fun _ h => h, fun _ _ => rfl, hs⟩⟩

/-- A function by its contract: it yields this value, and nothing that was there turns. -/
theorem prim_does {f : FuncId} {fn : Func} (hfn : P.funcs[f]? = some fn) (hb : fn.body.isSome = true) (hname : (fn.name == "runtime.NumGoroutine") = false)
    {D : Nat → Prop} {ρ : Nat → Nat} {H : AH} {w : World} {args' : Array Value} (hr : HR B WB D ρ H w) {v : AV} {v' : Value} (hv : ∀ sh, VR D ρ sh v v')
    (h : Calls P f args' w fun e w' => e = .returned v' ∧ Below w.heap.size w w') : SDoes P (callFunc f args') w (Aft B WB D ρ H w (v, H)) := by
  refine .inr ⟨f, args', w, run_call hfn hb hname args' w, h.mono fun e w' ⟨h1, h2⟩ => ?_⟩
  obtain ⟨h3, h4⟩ := below_hr hr h2
  exact ⟨v', h1, D, ρ, h3, hv _, h4⟩

/-- What a law's call comes to. -/
theorem law_calls {L : Nat} {prim : FuncId → Option (List AV → AH → Res)} (hp : PrimOk P B WB prim) {f : FuncId} {fn : Func} (hfn : P.funcs[f]? = some fn) (hb : fn.body.isSome = true)
    (hname : (fn.name == "runtime.NumGoroutine") = false) {args : List AV} {args' : Array Value} {n : Nat} {b : Bool} (h : (callE P B B L prim n f args ⟨.nil, B⟩).map (·.1) = some (.bool b)) (hBW : WB = B)
    (w : World) (ha : VRL (fun k => k < B) id w.shape? args args'.toList) : Calls P f args' w fun e w' => e = .returned (.bool b) ∧ Below w.heap.size w w' := by
  subst hBW
  obtain ⟨r, h1, h2⟩ := Option.map_eq_some_iff.1 h
  have hr : HR WB WB (fun k => k < WB) id ⟨.nil, WB⟩ w := by
    refine ⟨fun b hb => ⟨hb, rfl⟩, Nat.le_refl _, fun a b ⟨o, ho⟩ => ?_, fun b ⟨o, ho⟩ => ?_, fun b o ho => ?_⟩ <;> (rw [Tr.get_nil] at ho; cases ho)
  have h3 := (callE_ok (L := L) hp n).does f args _ r h1 _ _ w args' hr ha (fun k hk hh => by have := hh.1; simp only at this hk; omega)
  rcases h3 with ⟨m, v', w', h4, h5, _⟩ | ⟨g, as, w', h4, h5⟩
  · rw [run_call hfn hb hname] at h4
    simp only [Result.ok.injEq] at h4
    obtain ⟨rfl, _⟩ := h4
    rcases h5 with h5 | ⟨h5, _⟩ <;> cases h5
  · rw [run_call hfn hb hname] at h4
    simp only [Result.ok.injEq, Next.enter.injEq] at h4
    obtain ⟨⟨rfl, rfl⟩, rfl⟩ := h4
    refine h5.mono fun e w' ⟨v, h6, D', ρ', h7, h8, h9⟩ => ?_
    rw [h2] at h8
    cases h8
    refine ⟨h6, h9.os, h9.tape, h9.output, h9.size, fun k hk => h9.frame k hk fun b ⟨o, ho⟩ => ?_⟩
    rw [Tr.get_nil] at ho; cases ho

/-! strings.Repeat. -/
noncomputable def repE (s : List UInt8) (n : Nat) : List UInt8 := Nat.rec (motive := fun _ => List UInt8) [] (fun _ ih => s ++ ih) n
noncomputable def repP (args : List AV) (H : AH) : Res := match args with
  | [.str s, .int .i64 (.ofNat n)] => bif Nat.ble n 9223372036854775807 && Nat.ble (lenR s * n) 140737488355328 then wholeK (repE s n) fun r => some (.str r, H) else none
  | _ => none
theorem repE_eq (s : List UInt8) : ∀ n, repE s n = Lib.repeatL s n
  | 0 => rfl
  | n + 1 => by
    show s ++ repE s n = _
    rw [repE_eq s n]; rfl
theorem repP_iff {args : List AV} {H : AH} {r : AV × AH} (h : repP args H = some r) :
    ∃ s n, args = [.str s, .int .i64 (.ofNat n)] ∧ n ≤ 9223372036854775807 ∧ s.length * n ≤ 140737488355328 ∧ r = (.str (Lib.repeatL s n), H) := by
  unfold repP at h
  split at h
  · rename_i s n
    cases hg : (Nat.ble n 9223372036854775807 && Nat.ble (lenR s * n) 140737488355328)
    · rw [hg] at h; cases h
    · rw [hg] at h
      rw [Bool.and_eq_true, Nat.ble_eq, Nat.ble_eq, lenR_eq] at hg
      simp only [cond_true, wholeK_eq, repE_eq, Option.some.injEq] at h
      exact ⟨s, n, rfl, hg.1, hg.2, h.symm⟩
  · cases h
/-- What a function is asked that is not walked into. -/
def Prim1 (P : Program) (B WB : Nat) (f : FuncId) (g : List AV → AH → Res) : Prop :=
  (∀ args H r, g args H = some r → H.next ≤ r.2.next) ∧
    ∀ args H r, g args H = some r → ∀ D ρ w (args' : Array Value), HR B WB D ρ H w → VRL D ρ w.shape? args args'.toList → Free D H.next r.2.next →
      SDoes P (callFunc f args') w (Aft B WB D ρ H w r)
theorem repP_ok {f : FuncId} {fn : Func} (hfn : P.funcs[f]? = some fn) (hb : fn.body.isSome = true) (hname : (fn.name == "runtime.NumGoroutine") = false)
    (hc : ∀ (s : ByteArray) (c : Nat) (w : World), c ≤ 9223372036854775807 → s.size * c ≤ 140737488355328 →
      Calls P f #[.string s, .int .i64 c] w fun e w' => e = .returned (.string ⟨(Lib.repeatL s.data.toList c).toArray⟩) ∧ Below w.heap.size w w') : Prim1 P B WB f repP := by
  refine ⟨fun args H r h => ?_, fun args H r h D ρ w args' hr ha _ => ?_⟩
  · obtain ⟨s, n, _, _, _, rfl⟩ := repP_iff h
    exact Nat.le_refl _
  · obtain ⟨s, n, rfl, h1, h2, rfl⟩ := repP_iff h
    obtain ⟨l⟩ := args'
    cases ha with | cons _ _ _ _ h3 h4 =>
    cases h4 with | cons _ _ _ _ h5 h6 =>
    cases h6
    cases h3
    cases h5
    exact prim_does hfn hb hname hr (fun sh => VR.str _) (hc ⟨⟨s⟩⟩ n w h1 h2)
end
end Go.Ev
