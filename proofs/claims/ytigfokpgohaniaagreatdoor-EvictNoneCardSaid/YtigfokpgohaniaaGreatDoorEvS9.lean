/- The plain evaluator is sound: operations that write. -/
import Derived.Test.YtigfokpgohaniaaGreatDoorEvS8
namespace Go.Ev
open Go

section
variable {P : Program} {B WB : Nat}
variable {D : Nat → Prop} {ρ : Nat → Nat} {w : World} {nt : Nat} {H : AH}

/-- A world with one block put anew. -/
def put (w : World) (b : Nat) (r : Obj) : World := { w with heap := w.heap.setIfInBounds b r }

theorem put_get (w : World) (b : Nat) (r : Obj) (i : Nat) : (put w b r).heap[i]? = if i = b ∧ i < w.heap.size then some r else w.heap[i]? := by
  simp only [put, Array.getElem?_setIfInBounds]
  by_cases h : b = i
  · subst h
    by_cases hb : b < w.heap.size
    · simp [hb]
    · simp [hb]
  · have h' : ¬ i = b := fun e => h e.symm
    simp [h, h']
theorem put_size (w : World) (b : Nat) (r : Obj) : (put w b r).heap.size = w.heap.size := by simp [put]

def Obj.shp : Obj → Option (TypeId × Nat)
  | .cells c e _ => some (e, c.size)
  | _ => none
theorem shape_obj {b : Nat} {r : Obj} (h : w.heap[b]? = some r) : w.shape? b = Obj.shp r := by
  cases r <;> simp [World.shape?, h, Obj.shp]

theorem put_shape {b : Nat} {r r0 : Obj} (h0 : w.heap[b]? = some r0) (hs : Obj.shp r = Obj.shp r0) (i : Nat) : (put w b r).shape? i = w.shape? i := by
  have hlt := lt_of_get h0
  by_cases hi : i = b
  · subst hi
    rw [shape_obj h0, ← hs]
    exact shape_obj (by rw [put_get]; simp [hlt])
  · have : (put w b r).heap[i]? = w.heap[i]? := by rw [put_get]; simp [hi]
    simp only [World.shape?, this]

theorem live_same {H : AH} {n : Nat} {o o0 : AObj} {b : Nat} (h0 : H.m.get n = some o0) : Live ⟨H.m.set n (some o), H.next⟩ b ↔ Live H b := by
  constructor
  · intro h
    rcases live_set h with rfl | h
    · exact ⟨o0, h0⟩
    · exact h
  · rintro ⟨q, hq⟩
    by_cases hb : b = n
    · exact ⟨o, by show (H.m.set n (some o)).get b = _; rw [Tr.get_set, if_pos hb]⟩
    · exact ⟨q, by show (H.m.set n (some o)).get b = _; rw [Tr.get_set, if_neg hb]; exact hq⟩

theorem put_hr (hr : HR B WB D ρ H w) {b : Nat} {o o0 : AObj} {r r0 : Obj} (h0 : H.m.get b = some o0) (hw : WB ≤ b) (hr0 : w.heap[ρ b]? = some r0)
    (hs : Obj.shp r = Obj.shp r0) (ho : OR D ρ w.shape? o r) :
    HR B WB D ρ ⟨H.m.set b (some o), H.next⟩ (put w (ρ b) r) ∧ Stp WB D ρ H w D ρ ⟨H.m.set b (some o), H.next⟩ (put w (ρ b) r) := by
  have hsh : (put w (ρ b) r).shape? = w.shape? := funext fun i => put_shape hr0 hs i
  have hlb : Live H b := ⟨o0, h0⟩
  refine ⟨⟨hr.lo, hr.wb, ?_, ?_, ?_⟩, ⟨fun _ h => h, fun _ _ => rfl, fun _ h => .inl h, Nat.le_refl _, by rw [put_size]; exact Nat.le_refl _, fun i x h => by rw [hsh]; exact h, rfl, rfl, rfl, ?_, ?_⟩⟩
  · intro x y hx hy e
    exact hr.inj x y ((live_same h0).1 hx) ((live_same h0).1 hy) e
  · intro x hx
    exact hr.dom x ((live_same h0).1 hx)
  · intro x q hq
    have hq' : (H.m.set b (some o)).get x = some q := hq
    rw [Tr.get_set] at hq'
    rw [hsh]
    by_cases hx : x = b
    · subst hx
      simp only [if_true, Option.some.injEq] at hq'; subst hq'
      exact ⟨r, by rw [put_get]; simp [lt_of_get hr0], ho⟩
    · rw [if_neg hx] at hq'
      obtain ⟨r', h1, h2⟩ := hr.obj x q hq'
      have hne : ¬ ρ x = ρ b := fun e => hx (hr.inj x b ⟨q, hq'⟩ hlb e)
      exact ⟨r', by rw [put_get]; simp [hne]; exact h1, h2⟩
  · intro i hi hn
    rw [put_get]
    have : ¬ i = ρ b := fun e => hn b hlb hw e.symm
    simp [this]
  · intro x hx
    exact .inl ((live_same h0).1 hx)

/-! Cells stored. -/
theorem setCell_put {b o : Nat} {c : Array Value} {e : TypeId} {f : Nat × Nat} {v : Value} (h : w.heap[b]? = some (.cells c e f)) :
    w.setCell ⟨b, o, none⟩ v = put w b (.cells (c.setIfInBounds o v) e f) := by
  simp only [World.setCell, put]
  congr 1
  apply Array.ext_getElem?
  intro i
  simp only [Array.getElem?_modify, Array.getElem?_setIfInBounds]
  have hlt := lt_of_get h
  by_cases hi : b = i
  · subst hi
    have hb : w.heap[b] = .cells c e f := (Array.getElem?_eq_some_iff.1 h).2
    simp [hlt, hb]
  · simp [hi]

theorem put_put (w : World) (b : Nat) (r r' : Obj) : put (put w b r) b r' = put w b r' := by
  simp only [put]
  congr 1
  apply Array.ext_getElem?
  intro i
  simp only [Array.getElem?_setIfInBounds, Array.size_setIfInBounds]
  by_cases hi : b = i
  · subst hi
    by_cases hb : b < w.heap.size <;> simp [hb]
  · simp [hi]

theorem run_storeCells {b off : Nat} {e : TypeId} {f : Nat × Nat} : ∀ (vs : List Value) (i : Nat) (c : Array Value) (w : World), w.heap[b]? = some (.cells c e f) →
    off + i + vs.length ≤ c.size → (∀ v ∈ vs, v.oneCell' = true) → (∀ j, off + i ≤ j → j < c.size → ¬(f.1 ≤ j ∧ j < f.2)) →
    ∃ c', (storeCells ⟨b, off, none⟩ vs i).run P w = .ok () (put w b (.cells c' e f)) ∧ c'.toList = c.toList.take (off + i) ++ vs ++ c.toList.drop (off + i + vs.length)
  | [], i, c, w, h, _, _, _ => by
    refine ⟨c, ?_, by simp⟩
    have : put w b (.cells c e f) = w := by
      have hlt := lt_of_get h
      simp only [put]
      congr 1
      apply Array.ext_getElem?
      intro j
      simp only [Array.getElem?_setIfInBounds]
      by_cases hj : b = j
      · subst hj
        have hb : w.heap[b] = .cells c e f := (Array.getElem?_eq_some_iff.1 h).2
        simp [hlt, hb]
      · simp [hj]
    rw [this]; rfl
  | v :: vs, i, c, w, h, hl, ho, hf => by
    simp only [List.length_cons] at hl
    have hc : w.cell? ⟨b, off + i, none⟩ = some (c[off + i]'(by omega)) := by
      rw [cell_of h]; exact Array.getElem?_eq_getElem (by omega)
    have hfr : w.frozen? ⟨b, off + i, none⟩ = false := by
      simp only [World.frozen?, h]
      have := hf (off + i) (Nat.le_refl _) (by omega)
      rw [Bool.and_eq_false_iff]
      simp only [decide_eq_false_iff_not]
      omega
    have hadd : (⟨b, off, none⟩ : Addr).add i = ⟨b, off + i, none⟩ := add_zero' _ _ rfl
    have hp : (put w b (.cells (c.setIfInBounds (off + i) v) e f)).heap[b]? = some (.cells (c.setIfInBounds (off + i) v) e f) := by
      rw [put_get]; simp [lt_of_get h]
    obtain ⟨c', h1, h2⟩ := run_storeCells (off := off) vs (i + 1) (c.setIfInBounds (off + i) v) (put w b (.cells (c.setIfInBounds (off + i) v) e f)) hp (by simp; omega) (fun u hu => ho u (by simp [hu]))
      (fun j hj hj2 => hf j (by omega) (by simpa using hj2))
    refine ⟨c', ?_, ?_⟩
    · simp only [storeCells, Sem.run_bind, hadd]
      rw [run_store P w _ v _ (ho v (by simp)), hc]
      simp only [hfr, Bool.false_eq_true, if_false, Result.andThen_ok]
      rw [setCell_put h, h1, put_put]
    · rw [h2]
      have hs : (c.setIfInBounds (off + i) v).toList = c.toList.set (off + i) v := Array.toList_setIfInBounds
      rw [hs]
      have hl2 : off + i < c.toList.length := by simp; omega
      have e1 : (c.toList.set (off + i) v).take (off + (i + 1)) = c.toList.take (off + i) ++ [v] := by
        rw [show off + (i + 1) = off + i + 1 by omega, List.take_set, List.take_succ_eq_append_getElem hl2]
        rw [List.set_append_right _ _ (by simp [List.length_take]; omega)]
        simp [List.length_take]
        have : off + i - min (off + i) c.size = 0 := by have : off + i < c.size := by simpa using hl2
                                                        omega
        rw [this]; rfl
      have e2 : (c.toList.set (off + i) v).drop (off + (i + 1) + vs.length) = c.toList.drop (off + i + (v :: vs).length) := by
        rw [List.drop_set_of_lt (by omega)]
        congr 1
        simp; omega
      rw [e1, e2]
      simp

/-- What comes of an operation: a value, or nothing. -/
def IsV (n : Next) (v : Value) : Prop := n = .value v ∨ (n = .skip ∧ v = undef)

theorem spliceK_eq {α β : Type} (v : List α) : ∀ (n : Nat) (l : List α) (k : List α → β), n ≤ l.length → spliceK v n l k = k (splice l n v)
  | 0, l, k, _ => by
    show appK v (dropR (lenR v) l) k = _
    rw [appK_eq, dropR_eq, lenR_eq]
    simp [splice]
  | n + 1, [], k, h => by simp at h
  | n + 1, a :: l, k, h => by
    show spliceK v n l (fun l' => k (a :: l')) = _
    rw [spliceK_eq v n l _ (by simpa using h)]
    simp [splice, Nat.add_right_comm]

theorem writeE_iff {b off : Nat} {vs : List AV} {k : AH → Res} {r : AV × AH} (h : writeE WB H b off vs k = some r) :
    (vs = [] ∧ k H = some r) ∨ ∃ cs e fz, H.m.get b = some (.cells cs e fz) ∧ WB ≤ b ∧ fzOk fz off = true ∧ off + vs.length ≤ cs.length ∧ (∀ v ∈ vs, AV.one v = true) ∧
      k ⟨H.m.set b (some (.cells (splice cs off vs) e fz)), H.next⟩ = some r := by
  unfold writeE at h
  split at h
  · exact .inl ⟨rfl, h⟩
  · rename_i v vs
    split at h
    · rename_i cs e fz hg
      cases hb : (Nat.ble WB b && fzOk fz off && Nat.ble (off + lenR (v :: vs)) (lenR cs) && (v :: vs).all AV.one)
      · rw [hb] at h; simp at h
      · rw [hb] at h
        simp only [Bool.and_eq_true, lenR_eq] at hb
        obtain ⟨⟨⟨h1, h2⟩, h3⟩, h4⟩ := hb
        have h3' := Nat.le_of_ble_eq_true h3
        simp only [cond_true] at h
        rw [spliceK_eq _ _ _ _ (by omega), Tr.setK_set] at h
        exact .inr ⟨cs, e, fz, hg, Nat.le_of_ble_eq_true h1, h2, h3', fun u hu => List.all_eq_true.1 h4 u hu, h⟩
    · cases h

theorem fz_range {fz : Option Nat} {f : Nat × Nat} {n off : Nat} (h : FzR fz f n) (ho : fzOk fz off = true) : ∀ j, off ≤ j → j < n → ¬(f.1 ≤ j ∧ j < f.2) := by
  intro j h1 h2
  cases fz with
  | none => simp only [FzR] at h; subst h; simp
  | some k => exact h j (Nat.le_trans (Nat.le_of_ble_eq_true ho) h1) h2

theorem ones {sh : Nat → Option (TypeId × Nat)} : ∀ {vs : List AV} {vs' : List Value}, VRL D ρ sh vs vs' → (∀ v ∈ vs, AV.one v = true) → ∀ v ∈ vs', v.oneCell' = true
  | _, _, .nil, _ => by simp
  | _, _, .cons v v' l l' h hl, ho => by
    intro u hu
    rcases List.mem_cons.1 hu with rfl | hu
    · exact h.one (ho v (by simp))
    · exact ones hl (fun x hx => ho x (by simp [hx])) u hu

/-- Cells laid into a block, here and there. -/
theorem write_ok (hr : HR B WB D ρ H w) {b off : Nat} {vs : List AV} {vs' : List Value} {k : AH → Res} {r : AV × AH} (hv : VRL D ρ w.shape? vs vs') (h : writeE WB H b off vs k = some r) :
    ∃ H' w', (storeCells ⟨ρ b, off, none⟩ vs').run P w = .ok () w' ∧ k H' = some r ∧ HR B WB D ρ H' w' ∧ Stp WB D ρ H w D ρ H' w' ∧ w'.shape? = w.shape? := by
  rcases writeE_iff h with ⟨rfl, h1⟩ | ⟨cs, e, fz, hg, hwb, hfz, hlen, hone, h1⟩
  · cases hv
    exact ⟨H, w, rfl, h1, hr, Stp.refl _ _ _ _, rfl⟩
  · obtain ⟨cs', f, x, y, h2, h3, h4, h5⟩ := hr.block hg
    have hxl := h4.length
    have hvl := hv.length
    have hsz : cs'.size = x.length + y.length := by have : cs'.toList.length = (x ++ y).length := by rw [h3]
                                                    simpa using this
    obtain ⟨c', h6, h7⟩ := run_storeCells (P := P) (off := off) vs' 0 cs' w h2 (by omega) (ones hv hone) (fz_range h5 (by simpa using hfz))
    have hc' : c'.toList = splice x off vs' ++ y := by
      rw [h7, h3]
      simp only [Nat.add_zero, splice]
      rw [List.take_append_of_le_length (by omega), List.drop_append_of_le_length (by omega)]
      simp
    have hc's : c'.size = cs'.size := by
      have : c'.toList.length = (splice x off vs' ++ y).length := by rw [hc']
      simp only [Array.length_toList, List.length_append, splice, List.length_take, List.length_drop] at this
      omega
    have hno : OR D ρ w.shape? (.cells (splice cs off vs) e fz) (.cells c' e f) := by
      refine .cells _ _ _ _ _ (splice x off vs') y hc' ?_ (hc's ▸ h5)
      unfold splice
      rw [hvl]
      exact ((h4.take off).app hv).app (h4.drop _)
    obtain ⟨h8, h9⟩ := put_hr hr hg hwb h2 (by simp [Obj.shp, hc's]) hno
    exact ⟨_, _, h6, h1, h8, h9, funext fun i => put_shape h2 (by simp [Obj.shp, hc's]) i⟩
end
end Go.Ev
