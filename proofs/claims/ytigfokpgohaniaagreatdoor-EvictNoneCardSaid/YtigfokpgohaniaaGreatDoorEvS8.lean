/- The plain evaluator is sound: operations that make a block. -/
import Derived.Test.YtigfokpgohaniaaGreatDoorEvS7
namespace Go.Ev
open Go

section
variable {P : Program} {B WB : Nat}
variable {D : Nat → Prop} {ρ : Nat → Nat} {w w' : World} {nt : Nat} {H : AH}

def upd (ρ : Nat → Nat) (n r : Nat) : Nat → Nat := fun b => if b = n then r else ρ b
def ext (D : Nat → Prop) (n : Nat) : Nat → Prop := fun b => D b ∨ b = n

/-- No number is in use that is to come. -/
def Free (D : Nat → Prop) (a b : Nat) : Prop := ∀ n, D n → ¬ (a ≤ n ∧ n < b)

theorem newE_eq (H : AH) (o : AObj) (k : Nat → AH → Res) : newE H o k = k H.next ⟨H.m.set H.next (some o), H.next + 1⟩ := by
  unfold newE
  rw [Tr.setK_set, natK_eq]

/-- A new block. -/
structure Made1 (w w' : World) (r : Obj) : Prop where
  heap : w'.heap = w.heap.push r
  os : w'.os = w.os
  tape : w'.tape = w.tape
  output : w'.output = w.output

theorem Made1.old {r : Obj} (h : Made1 w w' r) {b : Nat} (hb : b < w.heap.size) : w'.heap[b]? = w.heap[b]? := by
  rw [h.heap, Array.getElem?_push, if_neg (by omega)]
theorem Made1.new {r : Obj} (h : Made1 w w' r) : w'.heap[w.heap.size]? = some r := by
  rw [h.heap, Array.getElem?_push, if_pos rfl]
theorem shape_of {b : Nat} (h : w'.heap[b]? = w.heap[b]?) : w'.shape? b = w.shape? b := by
  simp only [World.shape?, h]
theorem lt_of_get {b : Nat} {r : Obj} (h : w.heap[b]? = some r) : b < w.heap.size := (Array.getElem?_eq_some_iff.1 h).1
theorem lt_of_shape {b : Nat} {x : TypeId × Nat} (h : w.shape? b = some x) : b < w.heap.size := by
  unfold World.shape? at h
  split at h
  · rename_i c e f hg; exact lt_of_get hg
  · cases h
theorem Made1.shape {r : Obj} (h : Made1 w w' r) : ∀ b x, w.shape? b = some x → w'.shape? b = some x := by
  intro b x hx
  rw [shape_of (h.old (lt_of_shape hx))]; exact hx

theorem live_set {H : AH} {n : Nat} {o : AObj} {k b : Nat} (h : Live ⟨H.m.set n (some o), k⟩ b) : b = n ∨ Live H b := by
  obtain ⟨q, hq⟩ := h
  rw [Tr.get_set] at hq
  split at hq
  · exact .inl (by assumption)
  · exact .inr ⟨q, hq⟩

theorem grow_new {r : Obj} (hm : Made1 w w' r) (hn : ∀ b, D b → b ≠ H.next) : Grow D (ext D H.next) ρ (upd ρ H.next w.heap.size) w.shape? w'.shape? :=
  ⟨fun _ h => .inl h, fun b h => by simp [upd, hn b h], hm.shape⟩

theorem alloc_hr (hr : HR B WB D ρ H w) (hf : Free D H.next (H.next + 1)) {o : AObj} {r : Obj} (hm : Made1 w w' r) (ho : OR D ρ w.shape? o r) :
    HR B WB (ext D H.next) (upd ρ H.next w.heap.size) ⟨H.m.set H.next (some o), H.next + 1⟩ w' ∧
    Stp WB D ρ H w (ext D H.next) (upd ρ H.next w.heap.size) ⟨H.m.set H.next (some o), H.next + 1⟩ w' := by
  have hn : ∀ b, D b → b ≠ H.next := fun b h e => hf b h ⟨by omega, by omega⟩
  have g := grow_new (ρ := ρ) hm hn
  have hlt : ∀ b, Live H b → ρ b < w.heap.size := fun b ⟨q, hq⟩ => by
    obtain ⟨r', h1, _⟩ := hr.obj b q hq
    exact lt_of_get h1
  have hup : ∀ b, D b → upd ρ H.next w.heap.size b = ρ b := fun b h => by simp [upd, hn b h]
  have hupn : upd ρ H.next w.heap.size H.next = w.heap.size := by simp [upd]
  refine ⟨⟨?_, ?_, ?_, ?_, ?_⟩, ⟨fun _ h => .inl h, hup, ?_, by simp, ?_, hm.shape, hm.os, hm.tape, hm.output, fun b hb _ => hm.old hb, ?_⟩⟩
  · intro b hb
    have := hr.lo b hb
    exact ⟨.inl this.1, (hup b this.1).trans this.2⟩
  · have := hr.wb
    show WB ≤ H.next + 1
    omega
  · intro x y hx hy e
    rcases live_set hx with rfl | hx
    · rcases live_set hy with rfl | hy
      · rfl
      · rw [hupn, hup y (hr.dom y hy)] at e
        have := hlt y hy
        omega
    · rcases live_set hy with rfl | hy
      · rw [hupn, hup x (hr.dom x hx)] at e
        have := hlt x hx
        omega
      · rw [hup x (hr.dom x hx), hup y (hr.dom y hy)] at e
        exact hr.inj x y hx hy e
  · intro b hb
    rcases live_set hb with rfl | hb
    · exact .inr rfl
    · exact .inl (hr.dom b hb)
  · intro b q hq
    have hq' : (H.m.set H.next (some o)).get b = some q := hq
    rw [Tr.get_set] at hq'
    by_cases hb : b = H.next
    · subst hb
      simp only [if_true, Option.some.injEq] at hq'; subst hq'
      exact ⟨r, by rw [hupn]; exact hm.new, ho.grow g⟩
    · rw [if_neg hb] at hq'
      obtain ⟨r', h1, h2⟩ := hr.obj b q hq'
      have hd := hr.dom b ⟨q, hq'⟩
      exact ⟨r', by rw [hup b hd, hm.old (lt_of_get h1)]; exact h1, h2.grow g⟩
  · intro b hb
    rcases hb with hb | rfl
    · exact .inl hb
    · exact .inr ⟨Nat.le_refl _, Nat.lt_succ_self _⟩
  · rw [hm.heap]; simp
  · intro b hb
    rcases live_set hb with rfl | hb
    · exact .inr ⟨Nat.le_refl _, .inl (by rw [hupn]; exact Nat.le_refl _)⟩
    · exact .inl hb

/-- What an operation that makes a block yields. -/
def YldA (P : Program) (D : Nat → Prop) (ρ : Nat → Nat) (w : World) (s : Sem Next) (m : Made) : Prop :=
  ∃ v' w' r, s.run P w = .ok (.value v') w' ∧ Made1 w w' r ∧ OR D ρ w.shape? m.2 r ∧
    VR (ext D H.next) (upd ρ H.next w.heap.size) w'.shape? (m.1 H.next) v'

theorem vr_ptr {sh : Nat → Option (TypeId × Nat)} : VR (ext D H.next) (upd ρ H.next w.heap.size) sh (ptrOf H.next) (.pointer (some ⟨w.heap.size, 0, none⟩)) := by
  have := VR.ptr (D := ext D H.next) (ρ := upd ρ H.next w.heap.size) (sh := sh) H.next 0 (.inr rfl)
  simpa [upd, ptrOf] using this

theorem zerosE_nil : ∀ n, zerosE n [] = []
  | 0 => rfl
  | n + 1 => by simpa [zerosE] using zerosE_nil n

theorem zeros_eq (z : Array Value) : ∀ (n : Nat), 0 < z.size ∨ n = 0 → ((List.range (n * z.size)).map fun i => z[i % z.size]!) = (List.replicate n z.toList).flatten
  | 0, _ => by simp
  | n + 1, h => by
    have hz : 0 < z.size := by rcases h with h | h <;> omega
    rw [List.replicate_succ, List.flatten_cons, ← zeros_eq z n (.inl hz)]
    rw [show (n + 1) * z.size = z.size + n * z.size by rw [Nat.add_mul]; omega, List.range_add, List.map_append, List.map_map]
    congr 1
    · apply List.ext_getElem?
      intro i
      by_cases hi : i < z.size
      · simp [hi, Nat.mod_eq_of_lt hi]
      · simp [hi]
    · apply List.map_congr_left
      intro i _
      simp

theorem zerosE_ok {sh : Nat → Option (TypeId × Nat)} {z : List AV} {z' : List Value} (h : VRL D ρ sh z z') : ∀ n, VRL D ρ sh (zerosE n z) (List.replicate n z').flatten
  | 0 => by simpa [zerosE] using VRL.nil
  | n + 1 => by
    rw [List.replicate_succ, List.flatten_cons]
    exact h.app (zerosE_ok h n)

theorem FzR_none (n : Nat) : FzR none (0, 0) n := rfl

theorem freeze_push {h : Array Obj} {os : Os} {t : Nat → Question → Nat} {d : Nat} {out : Array (Nat × ByteArray)} {c : Array Value} {e : TypeId} :
    (World.freeze ⟨h.push (.cells c e), t, d, os, out⟩ ⟨h.size, c.size, none⟩ 1).heap = h.push (.cells c e (c.size, c.size + 1)) := by
  simp only [World.freeze]
  rw [if_neg (by decide)]
  apply Array.ext_getElem?
  intro i
  simp only [Array.getElem?_modify, Array.getElem?_push]
  by_cases hi : i = h.size
  · subst hi
    simp
  · have : ¬ h.size = i := fun e => hi e.symm
    simp [hi, this]

theorem allocB_ok (hr : HR B WB D ρ H w) {E : Tr AV} {a : Act} (he : ER nt D ρ w.shape? E a) {o : Oper} {m : Made} (hf : Free D H.next (H.next + 1))
    (h : (allocB P B o.op).f E = some m) : YldA (H := H) P D ρ w (execOp a.eval o) m := by
  have hl := hr.low
  have hn : ∀ b, D b → b ≠ H.next := fun b h e => hf b h ⟨by omega, by omega⟩
  obtain ⟨dst, op, type, pos, after, guard⟩ := o
  cases op <;> simp only [allocB, reduceCtorEq] at h <;> simp only [execOp]
  case alloc e =>
    unfold allocZ at h
    split at h
    · rename_i z hz
      simp only [Option.some.injEq] at h; subst h
      obtain ⟨z', hz1, hz2⟩ := run_zeroV (D := D) (ρ := ρ) (sh := w.shape?) (w := w) hz
      refine ⟨.pointer (some ⟨w.heap.size, 0, none⟩), w.alloc (.cells z'.cells e), .cells z'.cells e, ?_, ⟨rfl, rfl, rfl, rfl⟩, ?_, vr_ptr⟩
      · simp [Instr.alloc, hz1, newVar, newRow]
      · exact .cells _ _ _ _ _ z'.cells.toList [] (by simp) hz2.cells (FzR_none _)
    · cases h
  case box e x =>
    obtain ⟨v, h1, h2⟩ := bindO_some_iff.1 h
    simp only [Option.some.injEq] at h2; subst h2
    have hv := opnd_ok hl he h1
    refine ⟨.pointer (some ⟨w.heap.size, 0, none⟩), w.alloc (.cells (a.eval x).cells e), .cells (a.eval x).cells e, ?_, ⟨rfl, rfl, rfl, rfl⟩, ?_, vr_ptr⟩
    · simp [Instr.box, newVar, newRow]
    · exact .cells _ _ _ _ _ (a.eval x).cells.toList [] (by simp) hv.cells (FzR_none _)
  case buildSlice t len parts =>
    obtain ⟨ps, h1, h2⟩ := bindO_some_iff.1 h
    have hp := opndP_ok hl he h1
    unfold buildSlE at h2
    split at h2
    · rename_i e hu
      split at h2
      · rename_i n z hn' hz
        cases hb : (Nat.beq z.cells.length n && Nat.ble (len * n) 16777216)
        · rw [hb] at h2; simp at h2
        · rw [hb] at h2
          simp only [Bool.and_eq_true] at hb
          have hzn : z.cells.length = n := Nat.eq_of_beq_eq_true hb.1
          have hsm : len * n ≤ 16777216 := Nat.le_of_ble_eq_true hb.2
          simp only [cond_true, wholeK_eq] at h2
          obtain ⟨cs, h3, h4⟩ := bindO_some_iff.1 h2
          simp only [Option.some.injEq] at h4; subst h4
          obtain ⟨z', hz1, hz2⟩ := run_zeroV (D := D) (ρ := ρ) (sh := w.shape?) (w := w) hz
          have hzc := hz2.cells
          have hzs : z'.cells.size = n := by have := hzc.length; rw [hzn] at this; simpa using this.symm
          have hbase : ∃ Z : Array Value, ((len * n = 0 ∧ Z = #[]) ∨ (¬ len * n = 0 ∧ Z = z'.cells)) ∧
              VRL D ρ w.shape? (zerosE len z.cells) ((Array.range (len * n)).map (Z[· % Z.size]!)).toList := by
            by_cases h0 : len * n = 0
            · refine ⟨#[], .inl ⟨h0, rfl⟩, ?_⟩
              have hz0 : zerosE len z.cells = [] := by
                rcases Nat.mul_eq_zero.1 h0 with h5 | h5
                · subst h5; rfl
                · have : z.cells = [] := List.length_eq_zero_iff.1 (hzn.trans h5)
                  rw [this, zerosE_nil]
              rw [hz0, h0]
              simpa using VRL.nil
            · refine ⟨z'.cells, .inr ⟨h0, rfl⟩, ?_⟩
              have hpos : 0 < z'.cells.size := by
                rw [hzs]
                rcases Nat.eq_zero_or_pos n with h5 | h5
                · exact absurd (by rw [h5]; simp) h0
                · exact h5
              have := zerosE_ok hzc len
              rw [← zeros_eq z'.cells len (.inl hpos), hzs] at this
              simpa [hzs] using this
          obtain ⟨Z, hZ1, hZ2⟩ := hbase
          obtain ⟨r', h5, h6⟩ := fillE_ok (place' := fun i => some (i * n, n)) ps _ _ _ cs hp hZ2 (fun i _ => rfl) h3
          have e1 : (parts.map fun (i, x) => (i, a.eval x)).toList = parts.toList.map fun x => (x.1, a.eval x.2) := by simp
          have hbig : ¬ (len * n > 2 ^ 24) := by omega
          refine ⟨.slice (some ⟨w.heap.size, 0, none⟩) len len, w.alloc (.cells r' e), .cells r' e, ?_, ⟨rfl, rfl, rfl, rfl⟩, ?_, ?_⟩
          · rcases hZ1 with ⟨h0, rfl⟩ | ⟨h0, rfl⟩
            · simp only [Instr.buildSlice, Sem.run_bind, run_underlying hu, Result.andThen_ok, run_szO hn', if_neg hbig, if_pos h0, Sem.run_pure, e1, h5, newRow, run_newObj]
              rfl
            · simp only [Instr.buildSlice, Sem.run_bind, run_underlying hu, Result.andThen_ok, run_szO hn', if_neg hbig, if_neg h0, hz1, Sem.run_pure, e1, h5, newRow, run_newObj]
              rfl
          · exact .cells _ _ _ _ _ r'.toList [] (by simp) h6 (FzR_none _)
          · have := VR.sliceAt (D := ext D H.next) (ρ := upd ρ H.next w.heap.size) (sh := (w.alloc (.cells r' e)).shape?) H.next 0 len len (.inr rfl) (Nat.le_refl _)
            simpa [upd, slOf] using this
      · cases h2
    · cases h2
  case makeMap t r =>
    cases r with
    | some r => simp at h
    | none =>
      simp only [Option.some.injEq] at h; subst h
      refine ⟨.map (some w.heap.size), w.alloc (.map #[] 0), .map #[] 0, ?_, ⟨rfl, rfl, rfl, rfl⟩, .map _ _ #[] .nil, ?_⟩
      · simp [Instr.makeMap]
      · have := VR.map (D := ext D H.next) (ρ := upd ρ H.next w.heap.size) (sh := (w.alloc (.map #[] 0)).shape?) H.next (.inr rfl)
        simpa [upd, mapOf] using this
  case convert src dst x =>
    obtain ⟨u, h1, h2⟩ := bindO_some_iff.1 h
    have hv := opnd_ok hl he h1
    unfold convAlloc at h2
    split at h2
    · rename_i d e hs hd
      split at h2
      · rename_i hee
        dsimp only at h2
        split at h2
        · rename_i s
          generalize a.eval x = x' at hv
          cases hv
          simp only [mapK_eq, lenR_eq, Option.some.injEq] at h2; subst h2
          generalize hcap : (Question.appendCap s.length 0 e).cut (w.tape w.drawn (.appendCap s.length 0 e)) = cap
          have hcap' : s.length ≤ cap := by rw [← hcap]; simp [Question.cut]
          obtain ⟨full, hfulldef⟩ : ∃ full : Array Value, full = (⟨s⟩ : Array UInt8).map (fun b => Value.int .u8 b.toNat) ++ Array.replicate (cap - s.length) (.int .u8 0) := ⟨_, rfl⟩
          have hfull : full.size = cap := by rw [hfulldef]; simp; omega
          have hheap : (World.freeze (({ w with drawn := w.drawn + 1 } : World).alloc (.cells full e)) ⟨w.heap.size, full.size, none⟩ 1).heap = w.heap.push (.cells full e (full.size, full.size + 1)) := freeze_push
          refine ⟨.slice (some ⟨w.heap.size, 0, none⟩) s.length cap, (World.freeze (({ w with drawn := w.drawn + 1 } : World).alloc (.cells full e)) ⟨w.heap.size, full.size, none⟩ 1),
            .cells full e (full.size, full.size + 1), ?_, ⟨hheap, ?_, ?_, ?_⟩, ?_, ?_⟩
          · have hsz : (⟨⟨s⟩⟩ : ByteArray).size = s.length := rfl
            have hsh : World.shape? { heap := w.heap.push (.cells full e), tape := w.tape, drawn := w.drawn + 1, os := w.os, output := w.output } w.heap.size = some (e, full.size) := by
              simp [World.shape?]
            simp only [convert, Sem.run_bind, run_underlying hs, run_underlying hd, run_underlying hee, Result.andThen_ok, Conv.stringToBytes, hsz, run_choose, Question.forced, Bool.false_eq_true,
              if_false, hcap, newRow, run_newObj, Sem.run_pure, markStringish, run_shape]
            rw [← hfulldef, hsh]
            rfl
          · unfold World.freeze; split <;> rfl
          · unfold World.freeze; split <;> rfl
          · unfold World.freeze; split <;> rfl
          · refine .cells _ _ _ _ _ (s.map fun b => Value.int .u8 b.toNat) (Array.replicate (cap - s.length) (.int .u8 0)).toList (by rw [hfulldef]; simp) ?_ ?_
            · have : ∀ l : List UInt8, VRL D ρ w.shape? (l.map byteV) (l.map fun b => Value.int .u8 b.toNat) := by
                intro l
                induction l with
                | nil => exact .nil
                | cons b l ih => exact .cons _ _ _ _ (.int _ _) ih
              exact this s
            · intro i _ hi
              simp only; omega
          · have := VR.slice (D := ext D H.next) (ρ := upd ρ H.next w.heap.size) (sh := (World.freeze (({ w with drawn := w.drawn + 1 } : World).alloc (.cells full e)) ⟨w.heap.size, full.size, none⟩ 1).shape?)
              H.next 0 s.length cap 1 (.inr rfl) hcap' ⟨e, full.size, by
                simp only [upd, if_true]
                unfold World.shape?
                rw [hheap]
                simp, by omega⟩
            simpa [upd, slOf] using this
        · cases h2
      · cases h2
    · cases h2
  case makeSlice t l c =>
    obtain ⟨lv, h1, h2⟩ := bindO_some_iff.1 h
    obtain ⟨cv, h3, h4⟩ := bindO_some_iff.1 h2
    have hlv := opnd_ok hl he h1
    have hcv := opnd_ok hl he h3
    generalize a.eval l = l' at hlv
    generalize a.eval c = c' at hcv
    unfold makeSlE at h4
    split at h4
    · rename_i e hu
      split at h4
      · rename_i n z i hn' hz hi
        cases hb : Nat.beq z.cells.length n
        · rw [hb] at h4; simp at h4
        · rw [hb] at h4
          have hzn : z.cells.length = n := Nat.eq_of_beq_eq_true hb
          simp only [cond_true, natK_eq] at h4
          split at h4
          · rename_i kl l kc c
            cases hb2 : (Nat.ble l c && Nat.ble (c * (i.bytes + 1)) 1073741824)
            · rw [hb2] at h4; simp at h4
            · rw [hb2] at h4
              simp only [Bool.and_eq_true] at hb2
              have hlc : l ≤ c := Nat.le_of_ble_eq_true hb2.1
              have hcb : c * (i.bytes + 1) ≤ 1073741824 := Nat.le_of_ble_eq_true hb2.2
              simp only [cond_true, wholeK_eq, Option.some.injEq] at h4; subst h4
              cases hlv; cases hcv
              have hc1 : c ≤ 1073741824 := Nat.le_trans (Nat.le_mul_of_pos_right c (Nat.succ_pos _)) hcb
              have hc2 : c * i.bytes ≤ 1073741824 := Nat.le_trans (Nat.mul_le_mul_left c (Nat.le_succ _)) hcb
              obtain ⟨z', hz1, hz2⟩ := run_zeroV (D := D) (ρ := ρ) (sh := w.shape?) (w := w) hz
              have hzc := hz2.cells
              have hzs : z'.cells.size = n := by have := hzc.length; rw [hzn] at this; simpa using this.symm
              have hbase : ∃ Z : Array Value, ((c * n = 0 ∧ Z = #[]) ∨ (¬ c * n = 0 ∧ Z = z'.cells)) ∧
                  VRL D ρ w.shape? (zerosE c z.cells) ((Array.range (c * n)).map (Z[· % Z.size]!)).toList := by
                by_cases h0 : c * n = 0
                · refine ⟨#[], .inl ⟨h0, rfl⟩, ?_⟩
                  have hz0 : zerosE c z.cells = [] := by
                    rcases Nat.mul_eq_zero.1 h0 with h5 | h5
                    · subst h5; rfl
                    · have : z.cells = [] := List.length_eq_zero_iff.1 (hzn.trans h5)
                      rw [this, zerosE_nil]
                  rw [hz0, h0]
                  simpa using VRL.nil
                · refine ⟨z'.cells, .inr ⟨h0, rfl⟩, ?_⟩
                  have hpos : 0 < z'.cells.size := by
                    rw [hzs]
                    rcases Nat.eq_zero_or_pos n with h5 | h5
                    · exact absurd (by rw [h5]; simp) h0
                    · exact h5
                  have := zerosE_ok hzc c
                  rw [← zeros_eq z'.cells c (.inl hpos), hzs] at this
                  simpa [hzs] using this
              obtain ⟨Z, hZ1, hZ2⟩ := hbase
              have hwl : IntKind.i64.wrap (.ofNat l) = .ofNat l := wrap_small .i64 l (by simp only [lim]; omega)
              have hwc : IntKind.i64.wrap (.ofNat c) = .ofNat c := wrap_small .i64 c (by simp only [lim]; omega)
              refine ⟨.slice (some ⟨w.heap.size, 0, none⟩) l c, w.alloc (.cells ((Array.range (c * n)).map (Z[· % Z.size]!)) e), .cells ((Array.range (c * n)).map (Z[· % Z.size]!)) e, ?_,
                ⟨rfl, rfl, rfl, rfl⟩, ?_, ?_⟩
              · have t1 : ((decide ((Int.ofNat c) < 0) || decide ((i.bytes : Int) * Int.ofNat c > 2 ^ 48)) || decide ((Int.ofNat l) < 0) || decide (Int.ofNat l > Int.ofNat c)) = false := by
                  simp only [Bool.or_eq_false_iff, decide_eq_false_iff_not, Int.ofNat_eq_natCast]
                  refine ⟨⟨⟨by omega, ?_⟩, by omega⟩, by omega⟩
                  have : (i.bytes : Int) * (c : Int) = ((c * i.bytes : Nat) : Int) := by rw [Nat.mul_comm]; simp
                  rw [this]
                  omega
                simp only [Instr.makeSlice, Sem.run_bind, run_underlying hu, Result.andThen_ok, asInt, asIntOf, Sem.run_pure, run_info hi, hwl, hwc, t1, Bool.false_eq_true, if_false, run_askRoom, run_szO hn']
                have e1 : (Int.ofNat c).toNat = c := rfl
                have e2 : (Int.ofNat l).toNat = l := rfl
                rcases hZ1 with ⟨h0, rfl⟩ | ⟨h0, rfl⟩
                · simp only [e1, e2, if_pos h0, Result.andThen_ok, newRow, Sem.run_bind, run_newObj, Sem.run_pure]
                  rfl
                · simp only [e1, e2, if_neg h0, hz1, Result.andThen_ok, newRow, Sem.run_bind, run_newObj, Sem.run_pure]
                  rfl
              · exact .cells _ _ _ _ _ _ [] (by rw [List.append_nil]) hZ2 (FzR_none _)
              · have := VR.sliceAt (D := ext D H.next) (ρ := upd ρ H.next w.heap.size) (sh := (w.alloc (.cells ((Array.range (c * n)).map (Z[· % Z.size]!)) e)).shape?) H.next 0 l c (.inr rfl) hlc
                simpa [upd, slOf] using this
          · cases h4
      · cases h4
    · cases h4
end
end Go.Ev
