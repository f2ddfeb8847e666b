/- The plain evaluator is sound: stores, appends, copies. -/
import Derived.Test.YtigfokpgohaniaaGreatDoorEvS9
namespace Go.Ev
open Go

section
variable {P : Program} {B WB : Nat}
variable {D : Nat → Prop} {ρ : Nat → Nat} {w : World} {nt : Nat} {H : AH}

/-- What an operation that writes comes to. -/
def YldC (P : Program) (B WB : Nat) (D : Nat → Prop) (ρ : Nat → Nat) (H : AH) (w : World) (s : Sem Next) (r : AV × AH) : Prop :=
  ∃ n v' w' D' ρ', s.run P w = .ok n w' ∧ IsV n v' ∧ HR B WB D' ρ' r.2 w' ∧ VR D' ρ' w'.shape? r.1 v' ∧ Stp WB D ρ H w D' ρ' r.2 w'

theorem vr_undef {sh : Nat → Option (TypeId × Nat)} : VR D ρ sh .undef undef := .tup [] #[] .nil

theorem storeE_ok (hr : HR B WB D ρ H w) {t : TypeId} {p v : AV} {p' v' : Value} {r : AV × AH} (hp : VR D ρ w.shape? p p') (hv : VR D ρ w.shape? v v')
    (h : (storeE P WB t).f H p v = some r) : YldC P B WB D ρ H w (do Instr.storeAt t p' v'; pure .skip) r := by
  unfold storeE at h
  split at h
  · rename_i n hn
    rw [natK_eq] at h
    dsimp only at h
    split at h
    · rename_i b o
      rw [lenR_eq] at h
      cases hb : Nat.beq v.cells.length n
      · rw [hb] at h; simp at h
      · rw [hb] at h
        simp only [cond_true] at h
        have hvc := hv.cells
        obtain ⟨H', w', h1, h2, h3, h4, h5⟩ := write_ok (P := P) hr hvc h
        simp only [Option.some.injEq] at h2; subst h2
        have hsz : v'.cells.size = n := by
          have := hvc.length
          rw [Nat.eq_of_beq_eq_true hb] at this
          simpa using this.symm
        cases hp
        refine ⟨.skip, undef, w', D, ρ, ?_, .inr ⟨rfl, rfl⟩, h3, vr_undef, h4⟩
        have hne : ¬ (v'.cells.size ≠ n) := by simp [hsz]
        simp only [Instr.storeAt, Sem.run_bind, Instr.sureAddr, Sem.run_pure, Result.andThen_ok, storeVar, run_szO hn, if_neg hne, h1]
    · cases h
  · cases h

theorem lenOfE_ok {x : AV} {x' : Value} {n : Nat} (hx : VR D ρ w.shape? x x') (h : lenOfE x = some n) : (Builtin.lenOf x').run P w = .ok n w := by
  unfold lenOfE at h
  split at h
  · simp only [Option.some.injEq] at h; subst h; cases hx <;> rfl
  · simp only [Option.some.injEq, lenR_eq] at h; subst h; cases hx; rfl
  · cases h

/-- The cells of what is appended or copied. -/
theorem srcE_ok (hr : HR B WB D ρ H w) {x : AV} {x' : Value} {n size m : Nat} {k : List AV → Res} {r : AV × AH} (hx : VR D ρ w.shape? x x') (hm : lenOfE x = some m) (hnm : n ≤ m)
    (h : srcE H x n size k = some r) :
    ∃ new new', (∀ d, (Builtin.firstCells size n x').run P (atD w d) = .ok new' (atD w d)) ∧ VRL D ρ w.shape? new new'.toList ∧ k new = some r ∧ new.length = n * size := by
  unfold srcE at h
  split at h
  · have hfin : ∀ d, (Builtin.firstCells size 0 x').run P (atD w d) = .ok #[] (atD w d) := by
      intro d
      unfold lenOfE at hm
      split at hm
      · cases hx <;> simp [Builtin.firstCells, loadCells, loadCellsFrom]
      · cases hx
        simp only [Builtin.firstCells, Sem.run_pure]
        congr 1
        apply Array.ext'
        simp
      · cases hm
    exact ⟨[], #[], hfin, .nil, h, by simp⟩
  · rename_i n'
    dsimp only at h
    split at h
    · rename_i b o len cap
      obtain ⟨cs, h1, h2⟩ := bindO_some_iff.1 h
      rw [takeK_eq, dropR_eq, lenR_eq] at h2
      cases hb : Nat.beq ((cs.drop o).take ((n' + 1) * size)).length ((n' + 1) * size)
      · rw [hb] at h2; simp at h2
      · rw [hb] at h2
        simp only [cond_true] at h2
        have hlen := Nat.eq_of_beq_eq_true hb
        obtain ⟨l', h3, h4⟩ := cellsAt_any (P := P) hr h1 rfl hlen
        simp only [lenOfE, Option.some.injEq] at hm
        refine ⟨_, l'.toArray, ?_, by simpa using h4, h2, hlen⟩
        intro d
        cases hx with
        | sliceAt => simp only [Builtin.firstCells]; exact h3 d
        | slice => simp only [Builtin.firstCells]; exact h3 d
        | sliceEnd => omega
    · rename_i s
      cases hsz : Nat.beq size 1
      · rw [hsz] at h; simp at h
      rw [hsz] at h
      have hsz' : size = 1 := Nat.eq_of_beq_eq_true hsz
      subst hsz'
      rw [cond_true, takeK_eq, mapK_eq] at h
      simp only [lenOfE, lenR_eq, Option.some.injEq] at hm
      cases hx
      refine ⟨_, ((s.take (n' + 1)).map fun b => Value.int .u8 b.toNat).toArray, ?_, ?_, h, by simp; omega⟩
      · intro d
        simp only [Builtin.firstCells, Sem.run_pure]
        congr 1
        apply Array.ext'
        simp [mk_extract]
      · have : ∀ l : List UInt8, VRL D ρ w.shape? (l.map byteV) (l.map fun b => Value.int .u8 b.toNat) := by
          intro l
          induction l with
          | nil => exact .nil
          | cons b l ih => exact .cons _ _ _ _ (.int _ _) ih
        simpa using this (s.take (n' + 1))
    · cases h

theorem nextslicecap_le (need c : Nat) (h : c < need) : Builtin.nextslicecap need c ≤ 2 * need + 1024 := by
  unfold Builtin.nextslicecap
  split
  · omega
  · split
    · omega
    · have : ∀ (r c : Nat), c < need → Builtin.growBy need r c ≤ 2 * need + 1024 := by
        intro r
        induction r with
        | zero => intro c hc; simp only [Builtin.growBy]; omega
        | succ r ih =>
          intro c hc
          simp only [Builtin.growBy]
          rw [if_neg (by omega)]
          by_cases h2 : c + (c + 768) / 4 < need
          · exact ih _ h2
          · cases r with
            | zero => simp only [Builtin.growBy]; omega
            | succ r => simp only [Builtin.growBy]; rw [if_pos (by omega)]; omega
      exact this 4 c h

/-- An id that is given up. -/
theorem drop_hr (hr : HR B WB D ρ H w) (b : Nat) :
    HR B WB D ρ ⟨H.m.set b none, H.next⟩ w ∧ Stp WB D ρ H w D ρ ⟨H.m.set b none, H.next⟩ w := by
  have hl : ∀ x, Live ⟨H.m.set b none, H.next⟩ x → Live H x := by
    rintro x ⟨q, hq⟩
    have hq' : (H.m.set b none).get x = some q := hq
    rw [Tr.get_set] at hq'
    split at hq'
    · cases hq'
    · exact ⟨q, hq'⟩
  refine ⟨⟨hr.lo, hr.wb, fun x y hx hy e => hr.inj x y (hl x hx) (hl y hy) e, fun x hx => hr.dom x (hl x hx), ?_⟩,
    ⟨fun _ h => h, fun _ _ => rfl, fun _ h => .inl h, Nat.le_refl _, Nat.le_refl _, fun _ _ h => h, rfl, rfl, rfl, fun _ _ _ => rfl, fun x hx => .inl (hl x hx)⟩⟩
  intro x q hq
  have hq' : (H.m.set b none).get x = some q := hq
  rw [Tr.get_set] at hq'
  split at hq'
  · cases hq'
  · exact hr.obj x q hq'

/-- A block goes on under a new number, with more cells known. -/
theorem move_hr (hr : HR B WB D ρ H w) (hf : Free D H.next (H.next + 1)) {b : Nat} {o o0 : AObj} {r r0 : Obj} (h0 : H.m.get b = some o0) (hw : WB ≤ b) (hr0 : w.heap[ρ b]? = some r0)
    (hs : Obj.shp r = Obj.shp r0) (ho : OR D ρ w.shape? o r) :
    HR B WB (ext D H.next) (upd ρ H.next (ρ b)) ⟨(H.m.set b none).set H.next (some o), H.next + 1⟩ (put w (ρ b) r) ∧
    Stp WB D ρ H w (ext D H.next) (upd ρ H.next (ρ b)) ⟨(H.m.set b none).set H.next (some o), H.next + 1⟩ (put w (ρ b) r) := by
  have hn : ∀ b, D b → b ≠ H.next := fun b h e => hf b h ⟨by omega, by omega⟩
  have hsh : (put w (ρ b) r).shape? = w.shape? := funext fun i => put_shape hr0 hs i
  have hup : ∀ x, D x → upd ρ H.next (ρ b) x = ρ x := fun x h => by simp [upd, hn x h]
  have hupn : upd ρ H.next (ρ b) H.next = ρ b := by simp [upd]
  have hlb : Live H b := ⟨o0, h0⟩
  have g : Grow D (ext D H.next) ρ (upd ρ H.next (ρ b)) w.shape? (put w (ρ b) r).shape? := ⟨fun _ h => .inl h, hup, fun i x h => by rw [hsh]; exact h⟩
  have hl : ∀ x, Live ⟨(H.m.set b none).set H.next (some o), H.next + 1⟩ x → x = H.next ∨ (Live H x ∧ x ≠ b) := by
    rintro x ⟨q, hq⟩
    have hq' : ((H.m.set b none).set H.next (some o)).get x = some q := hq
    rw [Tr.get_set] at hq'
    split at hq'
    · exact .inl (by assumption)
    · rw [Tr.get_set] at hq'
      split at hq'
      · cases hq'
      · exact .inr ⟨⟨q, hq'⟩, by assumption⟩
  refine ⟨⟨?_, ?_, ?_, ?_, ?_⟩, ⟨fun _ h => .inl h, hup, ?_, by simp, by rw [put_size]; exact Nat.le_refl _, fun i x h => by rw [hsh]; exact h, rfl, rfl, rfl, ?_, ?_⟩⟩
  · intro x hx
    have := hr.lo x hx
    exact ⟨.inl this.1, (hup x this.1).trans this.2⟩
  · have := hr.wb
    show WB ≤ H.next + 1
    omega
  · intro x y hx hy e
    rcases hl x hx with rfl | ⟨hx, hxb⟩
    · rcases hl y hy with rfl | ⟨hy, hyb⟩
      · rfl
      · rw [hupn, hup y (hr.dom y hy)] at e
        exact absurd (hr.inj b y hlb hy e).symm hyb
    · rcases hl y hy with rfl | ⟨hy, hyb⟩
      · rw [hupn, hup x (hr.dom x hx)] at e
        exact absurd (hr.inj x b hx hlb e) hxb
      · rw [hup x (hr.dom x hx), hup y (hr.dom y hy)] at e
        exact hr.inj x y hx hy e
  · intro x hx
    rcases hl x hx with rfl | ⟨hx, _⟩
    · exact .inr rfl
    · exact .inl (hr.dom x hx)
  · intro x q hq
    have hq' : ((H.m.set b none).set H.next (some o)).get x = some q := hq
    rw [Tr.get_set] at hq'
    by_cases hx : x = H.next
    · subst hx
      simp only [if_true, Option.some.injEq] at hq'; subst hq'
      exact ⟨r, by rw [hupn, put_get]; simp [lt_of_get hr0], ho.grow g⟩
    · rw [if_neg hx, Tr.get_set] at hq'
      split at hq'
      · cases hq'
      · rename_i hxb
        obtain ⟨r', h1, h2⟩ := hr.obj x q hq'
        have hd := hr.dom x ⟨q, hq'⟩
        have hne : ¬ ρ x = ρ b := fun e => hxb (hr.inj x b ⟨q, hq'⟩ hlb e)
        exact ⟨r', by rw [hup x hd, put_get]; simp [hne]; exact h1, h2.grow g⟩
  · intro x hx
    rcases hx with hx | rfl
    · exact .inl hx
    · exact .inr ⟨Nat.le_refl _, Nat.lt_succ_self _⟩
  · intro i hi hn
    rw [put_get]
    have : ¬ i = ρ b := fun e => hn b hlb hw e.symm
    simp [this]
  · intro x hx
    rcases hl x hx with rfl | ⟨hx, _⟩
    · exact .inr ⟨Nat.le_refl _, .inr ⟨b, hlb, hw, hupn⟩⟩
    · exact .inl hx
end
end Go.Ev
