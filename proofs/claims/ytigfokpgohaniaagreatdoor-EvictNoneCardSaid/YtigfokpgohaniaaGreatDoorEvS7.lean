/- The plain evaluator is sound: operations that read. -/
import Derived.Test.YtigfokpgohaniaaGreatDoorEvS6
import Derived.Laws.Cells
import Derived.Laws.BytesString
namespace Go.Ev
open Go

section
variable {P : Program} {B WB : Nat}
variable {D : Nat → Prop} {ρ : Nat → Nat} {w : World} {nt : Nat} {H : AH}

theorem HR.low (h : HR B WB D ρ H w) : Low B D ρ := h.lo

theorem objCells_iff {b : Nat} {cs : List AV} (h : objCells H b = some cs) : ∃ e fz, H.m.get b = some (.cells cs e fz) := by
  unfold objCells at h
  split at h
  · rename_i cs' e fz hg
    simp only [Option.some.injEq] at h; subst h; exact ⟨e, fz, hg⟩
  · cases h

/-- A block of cells in the world. -/
theorem HR.block (h : HR B WB D ρ H w) {b : Nat} {cs : List AV} {e : TypeId} {fz : Option Nat} (hg : H.m.get b = some (.cells cs e fz)) :
    ∃ cs' f x y, w.heap[ρ b]? = some (.cells cs' e f) ∧ cs'.toList = x ++ y ∧ VRL D ρ w.shape? cs x ∧ FzR fz f cs'.size := by
  obtain ⟨r, h1, h2⟩ := h.obj b _ hg
  cases h2 with | cells _ _ _ cs' f x y h3 h4 h5 => exact ⟨cs', f, x, y, h1, h3, h4, h5⟩

theorem cell_of {b : Nat} {cs' : Array Value} {e : TypeId} {f : Nat × Nat} (h : w.heap[b]? = some (.cells cs' e f)) (o : Nat) : w.cell? ⟨b, o, none⟩ = cs'[o]? := by
  simp [World.cell?, h]

/-- The world, so much drawn. -/
def atD (w : World) (d : Nat) : World := { w with drawn := d }
theorem atD_self : atD w w.drawn = w := rfl

theorem cellsAt_any (hr : HR B WB D ρ H w) {b o n : Nat} {l : List AV} {cs : List AV} (hc : objCells H b = some cs) (hl : (cs.drop o).take n = l) (hn : l.length = n) :
    ∃ l', (∀ d, (loadCells ⟨ρ b, o, none⟩ n).run P (atD w d) = .ok l'.toArray (atD w d)) ∧ VRL D ρ w.shape? l l' := by
  obtain ⟨e, fz, hg⟩ := objCells_iff hc
  obtain ⟨cs', f, x, y, h1, h2, h3, _⟩ := hr.block hg
  have hl' := (h3.drop o).take n
  rw [hl] at hl'
  refine ⟨(x.drop o).take n, fun d => ?_, hl'⟩
  have hlen : ((x.drop o).take n).length = n := by rw [← hl'.length]; exact hn
  have h1' : (atD w d).heap[ρ b]? = some (.cells cs' e f) := h1
  have := run_loadCells_list (P := P) (atD w d) ⟨ρ b, o, none⟩ ((x.drop o).take n) (fun j v hj => by
    rw [add_zero' _ _ rfl, cell_of h1']
    rw [← Array.getElem?_toList, h2]
    have hj' : j < n := by rw [← hlen]; exact (List.getElem?_eq_some_iff.1 hj).1
    rw [List.getElem?_take, if_pos hj', List.getElem?_drop] at hj
    have hlt : o + j < x.length := (List.getElem?_eq_some_iff.1 hj).1
    show (x ++ y)[o + j]? = _
    rw [List.getElem?_append_left hlt]; exact hj)
  rw [hlen] at this
  exact this

theorem cellsAt_ok (hr : HR B WB D ρ H w) {b o n : Nat} {l : List AV} {cs : List AV} (hc : objCells H b = some cs) (hl : (cs.drop o).take n = l) (hn : l.length = n) :
    ∃ l', (loadCells ⟨ρ b, o, none⟩ n).run P w = .ok l'.toArray w ∧ VRL D ρ w.shape? l l' := by
  obtain ⟨l', h1, h2⟩ := cellsAt_any (P := P) hr hc hl hn
  exact ⟨l', h1 w.drawn, h2⟩

theorem loadE_ok (hr : HR B WB D ρ H w) {t : TypeId} {p : AV} {p' : Value} {v : AV} (hp : VR D ρ w.shape? p p') (h : (loadE P t).f H p = some v) :
    Yld P D ρ w.shape? w (Instr.loadAt t p') v := by
  unfold loadE at h
  split at h
  · rename_i ha
    split at h
    · rename_i n hn
      rw [natK_eq] at h
      obtain ⟨b, o, rfl, h2⟩ := onPtr_iff h
      obtain ⟨cs, h3, h4⟩ := bindO_some_iff.1 h2
      rw [takeK_eq, dropR_eq, lenR_eq] at h4
      cases hb : Nat.beq ((cs.drop o).take n).length n
      · rw [hb] at h4; simp at h4
      · rw [hb] at h4
        simp only [cond_true, Option.some.injEq] at h4; subst h4
        obtain ⟨l', h5, h6⟩ := cellsAt_ok (P := P) hr h3 rfl (Nat.eq_of_beq_eq_true hb)
        cases hp
        exact ⟨.agg l'.toArray, by simp [Instr.loadAt, Instr.sureAddr, loadVar, run_aggT ha, run_szO hn, h5], .agg _ _ (by simpa using h6)⟩
    · cases h
  · rename_i ha
    obtain ⟨b, o, rfl, h2⟩ := onPtr_iff h
    obtain ⟨cs, h3, h4⟩ := bindO_some_iff.1 h2
    rw [nth_eq] at h4
    obtain ⟨e, fz, hg⟩ := objCells_iff h3
    obtain ⟨cs', f, x, y, h5, h6, h7, _⟩ := hr.block hg
    obtain ⟨v', h8, h9⟩ := h7.get _ _ h4
    cases hp
    have hc : w.cell? ⟨ρ b, o, none⟩ = some v' := by
      rw [cell_of h5, ← Array.getElem?_toList, h6, List.getElem?_append_left (List.getElem?_eq_some_iff.1 h8).1]; exact h8
    exact ⟨v', by simp [Instr.loadAt, Instr.sureAddr, loadVar, run_aggT ha, hc], h9⟩
  · cases h

/-! Maps. -/
section
variable {sh : Nat → Option (TypeId × Nat)}
theorem keySame_ok {k q : AV} {k' q' : Value} {t : TypeId} {d : TypeDesc} {b : Bool} (hd : P.underlying t = some d) (hk : keyKind P t k = true)
    (h1 : VR D ρ sh k k') (h2 : VR D ρ sh q q') (h : keySame k q = some b) : Instr.sameNow d k' q' = some b := by
  unfold keySame at h
  unfold keyKind at hk
  rw [hd] at hk
  split at h
  · rename_i k1 a k2 c
    rw [sameK_eq] at h
    by_cases e : k1 = k2
    · subst e
      simp only [decide_true, cond_true, Option.some.injEq, eqI_eq] at h; subst h
      cases h1; cases h2
      cases d <;> first | (simp at hk; done) | simp [Instr.sameNow]
    · simp [e] at h
  · simp only [Option.some.injEq, eqS_eq] at h; subst h
    cases h1; cases h2
    cases d <;> first
      | (simp at hk; done)
      | (simp only [Instr.sameNow]; rw [beq_toListBytes, ByteArray.toList_eq, ByteArray.toList_eq])
  · simp only [Option.some.injEq] at h; subst h
    cases h1; cases h2
    cases d <;> first | (simp at hk; done) | simp [Instr.sameNow]
  · cases h

theorem findE_ok {k : AV} {k' : Value} {t : TypeId} {d : TypeDesc} (hd : P.underlying t = some d) (hk : keyKind P t k = true) (h1 : VR D ρ sh k k') :
    ∀ (es : List (AV × AV × Nat)) (es' : List MapEntry) (i : Nat) (r : Option (Nat × AV)), ERL D ρ sh es es' → findE k es i = some r →
      ∃ r', Instr.findNow d k' es' i = some r' ∧ ((r = none ∧ r' = none) ∨ ∃ j v v' q, r = some (j, v) ∧ r' = some (j, v') ∧ VR D ρ sh v v' ∧ i ≤ j ∧ j - i < es.length ∧
        (es'[j - i]?).map (·.key) = some q ∧ Instr.sameNow d k' q = some true)
  | [], _, i, r, .nil, h => by simp only [findE, Option.some.injEq] at h; subst h; exact ⟨none, rfl, .inl ⟨rfl, rfl⟩⟩
  | _, _, i, r, .cons q v s q' v' l l' hq hv hl, h => by
    simp only [findE] at h
    obtain ⟨b, h2, h3⟩ := bindO_some_iff.1 h
    have hs := keySame_ok hd hk h1 hq h2
    cases b
    · simp only [cond_false] at h3
      obtain ⟨r', h4, h5⟩ := findE_ok hd hk h1 l l' (i + 1) r hl h3
      refine ⟨r', by simp only [Instr.findNow, hs]; exact h4, ?_⟩
      rcases h5 with h5 | ⟨j, u, u', qq, e1, e2, h6, h7, h8, h9, h10⟩
      · exact .inl h5
      · refine .inr ⟨j, u, u', qq, e1, e2, h6, by omega, by simp; omega, ?_, h10⟩
        obtain ⟨m, hm⟩ : ∃ m, j - i = m + 1 := ⟨j - i - 1, by omega⟩
        have hm2 : j - (i + 1) = m := by omega
        rw [hm, List.getElem?_cons_succ, ← hm2]; exact h9
    · simp only [cond_true, Option.some.injEq] at h3; subst h3
      exact ⟨some (i, v'), by simp only [Instr.findNow, hs], .inr ⟨i, v, v', q', rfl, rfl, hv, Nat.le_refl _, by simp, by simp, hs⟩⟩

theorem run_checkKey {t : TypeId} {k : AV} {k' : Value} {empty : Bool} (hk : keyKind P t k = true) (h1 : VR D ρ sh k k') : (Instr.checkKey empty 10000 t k').run P w = .ok () w := by
  unfold keyKind at hk
  split at hk
  · rename_i hu; cases h1; show (Instr.checkKey empty (9999 + 1) t _).run P w = _; rw [Instr.checkKey]; simp only [Sem.run_bind, run_underlying hu, Result.andThen_ok]; rfl
  · rename_i hu; cases h1; show (Instr.checkKey empty (9999 + 1) t _).run P w = _; rw [Instr.checkKey]; simp only [Sem.run_bind, run_underlying hu, Result.andThen_ok]; rfl
  · rename_i hu; cases h1; show (Instr.checkKey empty (9999 + 1) t _).run P w = _; rw [Instr.checkKey]; simp only [Sem.run_bind, run_underlying hu, Result.andThen_ok]; rfl
  · cases hk

theorem keyKind_under {t : TypeId} {k : AV} (hk : keyKind P t k = true) : ∃ d, P.underlying t = some d := by
  unfold keyKind at hk
  split at hk
  · exact ⟨_, by assumption⟩
  · exact ⟨_, by assumption⟩
  · exact ⟨_, by assumption⟩
  · cases hk

theorem run_findKey {t : TypeId} {d : TypeDesc} {k' : Value} {es : List MapEntry} {r : Option (Nat × Value)} (hd : P.underlying t = some d) (h : Instr.findNow d k' es 0 = some r) :
    (Instr.findKey t k' es).run P w = .ok r w := by
  simp [Instr.findKey, run_underlying hd, h]
end

theorem entriesOf_ok (hr : HR B WB D ρ H w) {x : AV} {x' : Value} {es : List (AV × AV × Nat)} (hx : VR D ρ w.shape? x x') (h : entriesOf H x = some es) :
    (x' = .map none ∧ es = []) ∨ ∃ r es' clock, x' = .map (some r) ∧ w.heap[r]? = some (.map es' clock) ∧ ERL D ρ w.shape? es es'.toList := by
  unfold entriesOf at h
  split at h
  · simp only [Option.some.injEq] at h; subst h; cases hx; exact .inl ⟨rfl, rfl⟩
  · rename_i b
    split at h
    · rename_i es1 clock hg
      simp only [Option.some.injEq] at h; subst h
      cases hx
      obtain ⟨r, h1, h2⟩ := hr.obj b _ hg
      cases h2 with | map _ _ es' h3 => exact .inr ⟨ρ b, es', clock, rfl, h1, h3⟩
    · cases h
  · cases h

theorem run_getMap {r : Nat} {es : Array MapEntry} {clock : Nat} (h : w.heap[r]? = some (.map es clock)) : (getObj r).run P w = .ok (.map es clock) w := by
  simp [getObj, Sem.run, h]

theorem lookupE_ok (hr : HR B WB D ρ H w) {t : TypeId} {ok : Bool} {x k : AV} {x' k' : Value} {v : AV} (hx : VR D ρ w.shape? x x') (hk : VR D ρ w.shape? k k')
    (h : lookupE P H t ok x k = some v) : Yld P D ρ w.shape? w (Instr.lookup t x' k' ok) v := by
  unfold lookupE at h
  split at h
  · rename_i kt et hu
    cases hkk : keyKind P kt k
    · rw [hkk] at h; simp at h
    · rw [hkk] at h
      simp only [cond_true] at h
      obtain ⟨es, h1, h2⟩ := bindO_some_iff.1 h
      obtain ⟨r, h3, h4⟩ := bindO_some_iff.1 h2
      obtain ⟨d, hd⟩ := keyKind_under hkk
      have fin : ∀ (es' : List MapEntry), ERL D ρ w.shape? es es' → ∃ v', (do
          let (v, ok') ← match ← Instr.findKey kt k' es' with
            | some (_, v) => pure (v, true)
            | none => pure (← zeroValue et, false)
          pure (if ok then .tuple #[v, .bool ok'] else v) : Sem Value).run P w = .ok v' w ∧ VR D ρ w.shape? v v' := by
        intro es' he
        obtain ⟨r', h5, h6⟩ := findE_ok hd hkk hk es es' 0 r he h3
        rw [Sem.run_bind, run_findKey hd h5]
        rcases h6 with ⟨rfl, rfl⟩ | ⟨j, u, u', q, rfl, rfl, h7, _⟩
        · simp only [foundE] at h4
          obtain ⟨z, hz, h8⟩ := bindO_some_iff.1 h4
          obtain ⟨z', hz1, hz2⟩ := run_zeroV (D := D) (ρ := ρ) (sh := w.shape?) (w := w) hz
          cases ok
          · simp only [cond_false, Option.some.injEq] at h8; subst h8
            exact ⟨z', by simp [hz1], hz2⟩
          · simp only [cond_true, Option.some.injEq] at h8; subst h8
            exact ⟨_, by simp [hz1], .tup _ #[z', .bool false] (.cons _ _ _ _ hz2 (.one (.bool _)))⟩
        · simp only [foundE] at h4
          cases ok
          · simp only [cond_false, Option.some.injEq] at h4; subst h4
            exact ⟨u', by simp, h7⟩
          · simp only [cond_true, Option.some.injEq] at h4; subst h4
            exact ⟨_, by simp, .tup _ #[u', .bool true] (.cons _ _ _ _ h7 (.one (.bool _)))⟩
      rcases entriesOf_ok hr hx h1 with ⟨rfl, rfl⟩ | ⟨r0, es', clock, rfl, h5, h6⟩
      · obtain ⟨v', h7, h8⟩ := fin [] .nil
        refine ⟨v', ?_, h8⟩
        rw [← h7]
        simp only [Instr.lookup, Sem.run_bind, run_underlying hu, Result.andThen_ok, Sem.run_pure, run_checkKey hkk hk]
        rfl
      · obtain ⟨v', h7, h8⟩ := fin es'.toList h6
        refine ⟨v', ?_, h8⟩
        rw [← h7]
        simp only [Instr.lookup, Sem.run_bind, run_underlying hu, Result.andThen_ok, Sem.run_pure, run_getMap h5, run_checkKey hkk hk]
        rfl
  · cases h

/-! Texts out of bytes. -/
theorem bytesK_ok {β : Type} : ∀ (l : List AV) (l' : List Value) (k : List UInt8 → Option β) (r : β), VRL D ρ w.shape? l l' → bytesK l k = some r →
    ∃ ns : List Int, l' = ns.map (Value.int .u8) ∧ k (ns.map fun n => UInt8.ofNat n.toNat) = some r
  | [], _, k, r, .nil, h => ⟨[], rfl, h⟩
  | _, _, k, r, .cons v v' l l' hv hl, h => by
    unfold bytesK at h
    split at h
    · rename_i heq; cases heq
    · rename_i n l2 k2 heq
      cases heq
      obtain ⟨ns, h1, h2⟩ := bytesK_ok l l' _ r hl h
      cases hv
      exact ⟨.ofNat _ :: ns, by simp [h1], h2⟩
    · cases h

theorem foldl_push : ∀ (ns : List Int) (s : ByteArray), (ns.foldl (fun r n => r.push (UInt8.ofNat n.toNat)) s).data.toList = s.data.toList ++ ns.map fun n => UInt8.ofNat n.toNat
  | [], s => by simp
  | n :: ns, s => by
    rw [List.foldl_cons, foldl_push ns]
    simp [ByteArray.push]

theorem textE_ok (hr : HR B WB D ρ H w) {x : AV} {x' : Value} {v : AV} (hx : VR D ρ w.shape? x x') (h : textE H x = some v) : Yld P D ρ w.shape? w (Conv.bytesToString x') v := by
  unfold textE at h
  split at h
  · simp only [Option.some.injEq] at h; subst h
    cases hx
    exact ⟨.string .empty, rfl, .str []⟩
  · rename_i b o n cap
    obtain ⟨cs, h3, h4⟩ := bindO_some_iff.1 h
    rw [takeK_eq, dropR_eq, lenR_eq] at h4
    cases hb : Nat.beq ((cs.drop o).take n).length n
    · rw [hb] at h4; simp at h4
    · rw [hb] at h4
      simp only [cond_true] at h4
      have hlen := Nat.eq_of_beq_eq_true hb
      have key : ∀ (A : Addr) (c : Nat), (∃ l' : List Value, (loadCells A n).run P w = .ok l'.toArray w ∧ VRL D ρ w.shape? ((cs.drop o).take n) l') →
          Yld P D ρ w.shape? w (Conv.bytesToString (.slice (some A) n c)) v := by
        intro A c ⟨l', h5, h6⟩
        obtain ⟨ns, h7, h8⟩ := bytesK_ok _ l' _ v h6 h4
        simp only [Option.some.injEq] at h8; subst h8
        refine ⟨_, run_bytesToString w A n c ns (by rw [h5, h7]), ?_⟩
        have : ns.foldl (fun r n => r.push (UInt8.ofNat n.toNat)) ByteArray.empty = ⟨⟨ns.map fun n => UInt8.ofNat n.toNat⟩⟩ := by
          apply ByteArray.ext
          apply Array.ext'
          rw [foldl_push]
          simp [ByteArray.empty, ByteArray.emptyWithCapacity]; rfl
        rw [this]
        exact .str _
      cases hx with
      | sliceAt => exact key _ _ (cellsAt_ok hr h3 rfl hlen)
      | slice => exact key _ _ (cellsAt_ok hr h3 rfl hlen)
      | sliceEnd _ A c s => exact key _ _ ⟨[], by simp [loadCells, loadCellsFrom], by simpa using VRL.nil⟩
  · cases h

theorem convRead_ok (hr : HR B WB D ρ H w) {src dst : TypeId} {x : AV} {x' : Value} {v : AV} (hx : VR D ρ w.shape? x x') (h : (convRead P src dst).f H x = some v) :
    Yld P D ρ w.shape? w (convert src dst x') v := by
  unfold convRead at h
  split at h
  · rename_i e hs hd
    split at h
    · rename_i he
      have h0 : textE H x = some v := h
      obtain ⟨v', h1, h2⟩ := textE_ok (P := P) hr hx h0
      refine ⟨v', ?_, h2⟩
      rw [← h1]
      unfold textE at h0
      split at h0
      · cases hx; exact run_convert_bytes_string w src dst e _ _ _ hs he hd
      · cases hx <;> exact run_convert_bytes_string w src dst e _ _ _ hs he hd
      · cases h0
    · cases h
  · cases h

theorem ERL.length {sh : Nat → Option (TypeId × Nat)} : ∀ {l : List (AV × AV × Nat)} {l' : List MapEntry}, ERL D ρ sh l l' → l.length = l'.length
  | _, _, .nil => rfl
  | _, _, .cons _ _ _ _ _ _ _ _ _ h => by simp [h.length]

theorem lenRead_ok (hr : HR B WB D ρ H w) {t ty : TypeId} {a : AV} {a' : Value} {v : AV} {ts : Array TypeId} (ht : ts[0]? = some t) (hx : VR D ρ w.shape? a a')
    (h : (lenRead P t).f H a = some v) : Yld P D ρ w.shape? w (Builtin.len_ ts ty #[a']) v := by
  unfold lenRead at h
  split at h
  · rename_i kt et hu
    obtain ⟨es, h1, h2⟩ := bindO_some_iff.1 h
    rw [mkI_eq, lenR_eq] at h2
    simp only [Option.some.injEq] at h2; subst h2
    rcases entriesOf_ok hr hx h1 with ⟨rfl, rfl⟩ | ⟨r0, es', clock, rfl, h5, h6⟩
    · exact ⟨.int .i64 0, by simp only [Builtin.len_, ht]; simp [run_underlying hu, goInt], .int _ _⟩
    · refine ⟨.int .i64 (.ofNat es.length), ?_, .int _ _⟩
      have : es.length = es'.size := by rw [h6.length]; simp
      simp only [Builtin.len_, ht]
      simp [run_underlying hu, run_getMap h5, goInt, this]
  · cases h

theorem ERL.find {sh : Nat → Option (TypeId × Nat)} {s : Nat} : ∀ {l : List (AV × AV × Nat)} {l' : List MapEntry}, ERL D ρ sh l l' → ∀ (e : AV × AV × Nat), l.find? (fun e => Nat.beq e.2.2 s) = some e →
    ∃ e', l'.find? (fun e => e.born == s) = some e' ∧ VR D ρ sh e.1 e'.key ∧ VR D ρ sh e.2.1 e'.val
  | _, _, .nil, e, h => by simp at h
  | _, _, .cons k v q k' v' l l' h1 h2 hl, e, h => by
    have hb : Nat.beq q s = (q == s) := by rw [Bool.eq_iff_iff]; simp
    by_cases hq : q = s
    · subst hq
      simp only [List.find?_cons, hb] at h
      simp at h
      subst h
      exact ⟨⟨k', v', q⟩, by simp, h1, h2⟩
    · simp only [List.find?_cons, hb] at h
      have hq' : (q == s) = false := by simpa using hq
      rw [hq'] at h
      simp only at h
      obtain ⟨e', h3, h4⟩ := hl.find e h
      exact ⟨e', by simp [hq', h3], h4⟩

theorem entryE_ok (hr : HR B WB D ρ H w) {it : AV} {it' : Value} {v : AV} (hx : VR D ρ w.shape? it it') (h : entryE H it = some v) : Yld P D ρ w.shape? w (Instr.entry it') v := by
  obtain ⟨r, o, rfl, h1⟩ := onPtr_iff h
  cases hx with | ptr _ _ hd =>
  split at h1
  · rename_i m since seen stepped hg
    obtain ⟨s, h2, h3⟩ := bindO_some_iff.1 h1
    split at h3
    · rename_i es clock hgm
      cases hb : Nat.beq clock stepped
      · rw [hb] at h3; simp at h3
      · rw [hb] at h3
        simp only [cond_true] at h3
        obtain ⟨e, h4, h5⟩ := bindO_some_iff.1 h3
        simp only [Option.some.injEq] at h5; subst h5
        obtain ⟨q, h6, h7⟩ := hr.obj _ _ hg
        cases h7 with | miter _ _ _ _ hdm =>
        obtain ⟨q2, h8, h9⟩ := hr.obj _ _ hgm
        cases h9 with | map _ _ es' h10 =>
        obtain ⟨e', h11, h12, h13⟩ := h10.find e h4
        refine ⟨.tuple #[e'.key, e'.val], ?_, .tup _ #[e'.key, e'.val] (.cons _ _ _ _ h12 (.one h13))⟩
        have hcs : clock = stepped := Nat.eq_of_beq_eq_true hb
        have hg1 : (getObj (ρ r)).run P w = .ok (.mapIter (some (ρ m)) since seen.toArray stepped) w := by simp [getObj, Sem.run, h6]
        have hbk : seen.toArray.back? = some s := by rw [List.back?_toArray]; exact h2
        have hfind : es'.find? (fun x => x.born == s) = some e' := by rw [← Array.find?_toList]; exact h11
        simp only [Instr.entry, Sem.run_bind, hg1, Result.andThen_ok, hbk, run_getMap h8, hcs]
        simp [hfind]
    · cases h3
  · cases h1

theorem readB_ok (hr : HR B WB D ρ H w) {E : Tr AV} {a : Act} (he : ER nt D ρ w.shape? E a) {o : Oper} {v : AV} (h : (readB P B o.op).f E H = some v) :
    YldN P D ρ w.shape? w (execOp a.eval o) v := by
  have hl := hr.low
  obtain ⟨dst, op, type, pos, after, guard⟩ := o
  cases op <;> simp only [readB, reduceCtorEq] at h <;> simp only [execOp]
  case load t x =>
    obtain ⟨u, h1, h2⟩ := bindO_some_iff.1 h
    exact (loadE_ok hr (opnd_ok hl he h1) h2).next
  case lookup t x k ok =>
    obtain ⟨u, v2, h1, h2, h3⟩ := Binary_iff h
    exact (lookupE_ok hr (opnd_ok hl he h1) (opnd_ok hl he h2) h3).next
  case convert src dst x =>
    obtain ⟨u, h1, h2⟩ := bindO_some_iff.1 h
    exact (convRead_ok hr (opnd_ok hl he h1) h2).next
  case entry it =>
    obtain ⟨u, h1, h2⟩ := bindO_some_iff.1 h
    exact (entryE_ok hr (opnd_ok hl he h1) h2).next
  case call c =>
    unfold callRead at h
    split at h
    · rename_i hb
      split at h
      · rename_i t ht
        obtain ⟨l, h1, h2⟩ := bindO_some_iff.1 h
        obtain ⟨x, h3, h4⟩ := bindO_some_iff.1 h2
        obtain ⟨x', hx1, hx2⟩ := builtin_one (opnds_arr hl he h1) (one1_iff h3)
        obtain ⟨v', h5, h6⟩ := lenRead_ok (ty := type) hr ht hx2 h4
        have hr : resolve a.eval c type = pure { target := .builtin .len c.argTypes type (c.args.map fun | .const _ => true | _ => false), args := c.args.map a.eval } := by
          simp only [resolve, hb]; rfl
        exact ⟨v', by simp [hr, invoke, builtin, hx1, h5], h6⟩
      · cases h
    · cases h
end
end Go.Ev
