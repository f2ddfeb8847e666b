/- The plain evaluator's abstract memory against the model's world: the relations, and how they are kept. -/
import Derived.Test.YtigfokpgohaniaaGreatDoorEvD
import Derived.Laws.World
import Derived.Laws.Sem
namespace Go.Ev
open Go

/-- Room: from a cell on a block has so many elements, each of so many cells. -/
def Fits (sh : Option (TypeId × Nat)) (o c s : Nat) : Prop := ∃ e N, sh = some (e, N) ∧ o + c * s ≤ N

section
variable (P : Program)

mutual
/-- A value of the model's is what an abstract one tells. 'D': the numbers that are in use; 'ρ': which block each one is. -/
inductive VR (D : Nat → Prop) (ρ : Nat → Nat) (sh : Nat → Option (TypeId × Nat)) : AV → Value → Prop where
  | bool (b : Bool) : VR D ρ sh (.bool b) (.bool b)
  | int (k : IntKind) (n : Int) : VR D ρ sh (.int k n) (.int k n)
  | str (s : List UInt8) : VR D ρ sh (.str s) (.string ⟨⟨s⟩⟩)
  | ptrNil : VR D ρ sh (.ptr none) (.pointer none)
  | ptr (b o : Nat) : D b → VR D ρ sh (.ptr (some (b, o))) (.pointer (some ⟨ρ b, o, none⟩))
  | sliceNil (n c : Nat) : VR D ρ sh (.slice none n (.is c)) (.slice none n c)
  | sliceAt (b o n c : Nat) : D b → n ≤ c → VR D ρ sh (.slice (some (b, o)) n (.is c)) (.slice (some ⟨ρ b, o, none⟩) n c)
  | slice (b o n c s : Nat) : D b → n ≤ c → Fits (sh (ρ b)) o c s → VR D ρ sh (.slice (some (b, o)) n (.more s)) (.slice (some ⟨ρ b, o, none⟩) n c)
  | sliceEnd (x : Nat × Nat) (a : Addr) (c s : Nat) : VR D ρ sh (.slice (some x) 0 (.more s)) (.slice (some a) 0 c)
  | mapNil : VR D ρ sh (.map none) (.map none)
  | map (b : Nat) : D b → VR D ρ sh (.map (some b)) (.map (some (ρ b)))
  | func (fn : Fn) (a b : List AV) (a' b' : Array Value) : VRL D ρ sh a a'.toList → VRL D ρ sh b b'.toList → VR D ρ sh (.func fn a b) (.func fn a' b')
  | nilFunc : VR D ρ sh .nilFunc .nilFunc
  | iface (t : TypeId) (v : AV) (v' : Value) : VR D ρ sh v v' → VR D ρ sh (.iface t v) (.iface t v')
  | nilIface : VR D ρ sh .nilIface .nilIface
  | agg (cs : List AV) (cs' : Array Value) : VRL D ρ sh cs cs'.toList → VR D ρ sh (.agg cs) (.agg cs')
  | tup (cs : List AV) (cs' : Array Value) : VRL D ρ sh cs cs'.toList → VR D ρ sh (.tup cs) (.tuple cs')
  | opq (v : Value) : v.oneCell' = true → VR D ρ sh (.opq v) v
inductive VRL (D : Nat → Prop) (ρ : Nat → Nat) (sh : Nat → Option (TypeId × Nat)) : List AV → List Value → Prop where
  | nil : VRL D ρ sh [] []
  | cons (v : AV) (v' : Value) (l : List AV) (l' : List Value) : VR D ρ sh v v' → VRL D ρ sh l l' → VRL D ρ sh (v :: l) (v' :: l')
end

section
variable {P}
variable {D D' : Nat → Prop} {ρ ρ' : Nat → Nat} {sh sh' : Nat → Option (TypeId × Nat)}

/-- More numbers in use, more blocks: nothing that was told turns. -/
structure Grow (D D' : Nat → Prop) (ρ ρ' : Nat → Nat) (sh sh' : Nat → Option (TypeId × Nat)) : Prop where
  d : ∀ b, D b → D' b
  r : ∀ b, D b → ρ' b = ρ b
  s : ∀ r x, sh r = some x → sh' r = some x

theorem Fits.grow {s s' : Option (TypeId × Nat)} {o c n : Nat} (h : Fits s o c n) (hs : ∀ x, s = some x → s' = some x) : Fits s' o c n := by
  obtain ⟨e, N, h1, h2⟩ := h
  exact ⟨e, N, hs _ h1, h2⟩

mutual
theorem VR.grow (g : Grow D D' ρ ρ' sh sh') : ∀ {v : AV} {v' : Value}, VR D ρ sh v v' → VR D' ρ' sh' v v'
  | _, _, .bool b => .bool b
  | _, _, .int k n => .int k n
  | _, _, .str s => .str s
  | _, _, .ptrNil => .ptrNil
  | _, _, .ptr b o h => g.r b h ▸ .ptr b o (g.d b h)
  | _, _, .sliceNil n c => .sliceNil n c
  | _, _, .sliceAt b o n c h hn => g.r b h ▸ .sliceAt b o n c (g.d b h) hn
  | _, _, .slice b o n c s h hn hf => g.r b h ▸ .slice b o n c s (g.d b h) hn (by rw [g.r b h]; exact hf.grow (g.s _))
  | _, _, .sliceEnd x a c s => .sliceEnd x a c s
  | _, _, .mapNil => .mapNil
  | _, _, .map b h => g.r b h ▸ .map b (g.d b h)
  | _, _, .func fn a b a' b' h1 h2 => .func fn a b a' b' (h1.grow g) (h2.grow g)
  | _, _, .nilFunc => .nilFunc
  | _, _, .iface t v v' h => .iface t v v' (h.grow g)
  | _, _, .nilIface => .nilIface
  | _, _, .agg cs cs' h => .agg cs cs' (h.grow g)
  | _, _, .tup cs cs' h => .tup cs cs' (h.grow g)
  | _, _, .opq v h => .opq v h
theorem VRL.grow (g : Grow D D' ρ ρ' sh sh') : ∀ {l : List AV} {l' : List Value}, VRL D ρ sh l l' → VRL D' ρ' sh' l l'
  | _, _, .nil => .nil
  | _, _, .cons v v' l l' h hl => .cons v v' l l' (h.grow g) (hl.grow g)
end

theorem VRL.length : ∀ {l : List AV} {l' : List Value}, VRL D ρ sh l l' → l.length = l'.length
  | _, _, .nil => rfl
  | _, _, .cons _ _ _ _ _ h => by simp [h.length]
theorem VRL.get : ∀ {l : List AV} {l' : List Value}, VRL D ρ sh l l' → ∀ (i : Nat) (v : AV), l[i]? = some v → ∃ v', l'[i]? = some v' ∧ VR D ρ sh v v'
  | _, _, .nil, i, v, h => by simp at h
  | _, _, .cons v v' l l' h hl, 0, u, hu => by simp at hu; subst hu; exact ⟨v', by simp, h⟩
  | _, _, .cons v v' l l' h hl, i + 1, u, hu => by simp at hu; obtain ⟨w, h1, h2⟩ := hl.get i u hu; exact ⟨w, by simpa using h1, h2⟩
theorem VRL.app : ∀ {l m : List AV} {l' m' : List Value}, VRL D ρ sh l l' → VRL D ρ sh m m' → VRL D ρ sh (l ++ m) (l' ++ m')
  | _, _, _, _, .nil, h => h
  | _, _, _, _, .cons v v' l l' h hl, h2 => .cons v v' _ _ h (hl.app h2)
theorem VRL.take : ∀ {l : List AV} {l' : List Value}, VRL D ρ sh l l' → ∀ n, VRL D ρ sh (l.take n) (l'.take n)
  | _, _, h, 0 => by simpa using VRL.nil
  | _, _, .nil, n + 1 => by simpa using VRL.nil
  | _, _, .cons v v' l l' h hl, n + 1 => by simpa using VRL.cons v v' _ _ h (hl.take n)
theorem VRL.drop : ∀ {l : List AV} {l' : List Value}, VRL D ρ sh l l' → ∀ n, VRL D ρ sh (l.drop n) (l'.drop n)
  | _, _, h, 0 => by simpa using h
  | _, _, .nil, n + 1 => by simpa using VRL.nil
  | _, _, .cons v v' l l' h hl, n + 1 => by simpa using hl.drop n
theorem VRL.one {v : AV} {v' : Value} (h : VR D ρ sh v v') : VRL D ρ sh [v] [v'] := .cons _ _ _ _ h .nil

theorem VR.cells {v : AV} {v' : Value} (h : VR D ρ sh v v') : VRL D ρ sh v.cells v'.cells.toList := by
  cases h with
  | agg cs cs' h => exact h
  | tup cs cs' h => exact .one (.tup cs cs' h)
  | opq w h => cases v' <;> first | exact .one (.opq _ h) | (simp [Value.oneCell'] at h; done)
  | _ => first | exact .one (by constructor <;> assumption) | exact .one (by constructor)

theorem VR.one {v : AV} {v' : Value} (h : VR D ρ sh v v') (h1 : AV.one v = true) : v'.oneCell' = true := by
  cases h <;> first | rfl | (simp [AV.one] at h1; done) | assumption
end

/-! Constants. -/
section
variable {P}
variable {D : Nat → Prop} {ρ : Nat → Nat} {sh : Nat → Option (TypeId × Nat)}
theorem ofVal1_VR : ∀ {v : Value} {a : AV}, ofVal1 v = some a → VR D ρ sh a v := by
  intro v a h
  unfold ofVal1 at h
  split at h <;> first
    | (cases h; done)
    | (simp only [Option.some.injEq] at h; subst h; first | constructor | (rename_i s; exact VR.str s.data.toList) )
theorem ofVals_VRL : ∀ {l : List Value} {r : List AV}, ofVals l = some r → VRL D ρ sh r l
  | [], r, h => by simp only [ofVals, Option.some.injEq] at h; subst h; exact .nil
  | v :: l, r, h => by
    simp only [ofVals] at h
    split at h
    · rename_i a b h1 h2
      simp only [Option.some.injEq] at h; subst h
      exact .cons _ _ _ _ (ofVal1_VR h1) (ofVals_VRL h2)
    · cases h
theorem ofVal_VR {v : Value} {a : AV} (h : ofVal v = some a) : VR D ρ sh a v := by
  unfold ofVal at h
  split at h
  · obtain ⟨r, h1, rfl⟩ := Option.map_eq_some_iff.1 h; exact .agg _ _ (ofVals_VRL h1)
  · obtain ⟨r, h1, rfl⟩ := Option.map_eq_some_iff.1 h; exact .tup _ _ (ofVals_VRL h1)
  · exact ofVal1_VR h
end

/-! Memory. -/
/-- Which cells of a block were handed to a string. -/
def FzR (fz : Option Nat) (f : Nat × Nat) (n : Nat) : Prop := match fz with
  | none => f = (0, 0)
  | some k => ∀ i, k ≤ i → i < n → ¬(f.1 ≤ i ∧ i < f.2)

inductive ERL (D : Nat → Prop) (ρ : Nat → Nat) (sh : Nat → Option (TypeId × Nat)) : List (AV × AV × Nat) → List MapEntry → Prop where
  | nil : ERL D ρ sh [] []
  | cons (k v : AV) (s : Nat) (k' v' : Value) (l : List (AV × AV × Nat)) (l' : List MapEntry) :
      VR D ρ sh k k' → VR D ρ sh v v' → ERL D ρ sh l l' → ERL D ρ sh ((k, v, s) :: l) (⟨k', v', s⟩ :: l')

inductive OR (D : Nat → Prop) (ρ : Nat → Nat) (sh : Nat → Option (TypeId × Nat)) : AObj → Obj → Prop where
  | cells (cs : List AV) (e : TypeId) (fz : Option Nat) (cs' : Array Value) (f : Nat × Nat) (x y : List Value) :
      cs'.toList = x ++ y → VRL D ρ sh cs x → FzR fz f cs'.size → OR D ρ sh (.cells cs e fz) (.cells cs' e f)
  | map (es : List (AV × AV × Nat)) (clock : Nat) (es' : Array MapEntry) : ERL D ρ sh es es'.toList → OR D ρ sh (.map es clock) (.map es' clock)
  | siter (s : List UInt8) (pos : Nat) : OR D ρ sh (.siter s pos) (.stringIter ⟨⟨s⟩⟩ pos)
  | miterNil (since : Nat) (seen : List Nat) (last : Nat) : OR D ρ sh (.miter none since seen last) (.mapIter none since seen.toArray last)
  | miter (m since : Nat) (seen : List Nat) (last : Nat) : D m → OR D ρ sh (.miter (some m) since seen last) (.mapIter (some (ρ m)) since seen.toArray last)

section
variable {P}
variable {D D' : Nat → Prop} {ρ ρ' : Nat → Nat} {sh sh' : Nat → Option (TypeId × Nat)}
theorem ERL.grow (g : Grow D D' ρ ρ' sh sh') : ∀ {l : List (AV × AV × Nat)} {l' : List MapEntry}, ERL D ρ sh l l' → ERL D' ρ' sh' l l'
  | _, _, .nil => .nil
  | _, _, .cons k v s k' v' l l' h1 h2 h => .cons k v s k' v' l l' (h1.grow g) (h2.grow g) (h.grow g)
theorem OR.grow (g : Grow D D' ρ ρ' sh sh') {o : AObj} {r : Obj} (h : OR D ρ sh o r) : OR D' ρ' sh' o r := by
  cases h with
  | cells cs e fz cs' f x y h1 h2 h3 => exact .cells cs e fz cs' f x y h1 (h2.grow g) h3
  | map es clock es' h => exact .map es clock es' (h.grow g)
  | siter s pos => exact .siter s pos
  | miterNil a b c => exact .miterNil a b c
  | miter m a b c h => exact g.r m h ▸ .miter m a b c (g.d m h)
end

variable (B WB : Nat)

def Live (H : AH) (b : Nat) : Prop := ∃ o, H.m.get b = some o

/-- The abstract memory tells of the world. -/
structure HR (D : Nat → Prop) (ρ : Nat → Nat) (H : AH) (w : World) : Prop where
  lo : ∀ b, b < B → D b ∧ ρ b = b
  wb : WB ≤ H.next
  inj : ∀ a b, Live H a → Live H b → ρ a = ρ b → a = b
  dom : ∀ b, Live H b → D b
  obj : ∀ b o, H.m.get b = some o → ∃ r, w.heap[ρ b]? = some r ∧ OR D ρ w.shape? o r

/-- From one state to a later one. -/
structure Stp (D : Nat → Prop) (ρ : Nat → Nat) (H : AH) (w : World) (D' : Nat → Prop) (ρ' : Nat → Nat) (H' : AH) (w' : World) : Prop where
  d : ∀ b, D b → D' b
  r : ∀ b, D b → ρ' b = ρ b
  fresh : ∀ b, D' b → D b ∨ (H.next ≤ b ∧ b < H'.next)
  next : H.next ≤ H'.next
  size : w.heap.size ≤ w'.heap.size
  shp : ∀ r s, w.shape? r = some s → w'.shape? r = some s
  os : w'.os = w.os
  tape : w'.tape = w.tape
  output : w'.output = w.output
  frame : ∀ r, r < w.heap.size → (∀ b, Live H b → WB ≤ b → ρ b ≠ r) → w'.heap[r]? = w.heap[r]?
  img : ∀ b, Live H' b → Live H b ∨ (H.next ≤ b ∧ (w.heap.size ≤ ρ' b ∨ ∃ a, Live H a ∧ WB ≤ a ∧ ρ' b = ρ a))

section
variable {P B WB}
variable {D D' : Nat → Prop} {ρ ρ' : Nat → Nat} {H H' : AH} {w w' : World}
theorem Stp.grow (s : Stp WB D ρ H w D' ρ' H' w') : Grow D D' ρ ρ' w.shape? w'.shape? := ⟨s.d, s.r, s.shp⟩
theorem Stp.refl (D : Nat → Prop) (ρ : Nat → Nat) (H : AH) (w : World) : Stp WB D ρ H w D ρ H w :=
  ⟨fun _ h => h, fun _ _ => rfl, fun _ h => .inl h, Nat.le_refl _, Nat.le_refl _, fun _ _ h => h, rfl, rfl, rfl, fun _ _ _ => rfl, fun _ h => .inl h⟩
theorem Stp.trans {D1 D2 D3 : Nat → Prop} {ρ1 ρ2 ρ3 : Nat → Nat} {H1 H2 H3 : AH} {w1 w2 w3 : World}
    (hd1 : ∀ b, Live H1 b → D1 b) (hd2 : ∀ b, Live H2 b → D2 b)
    (s : Stp WB D1 ρ1 H1 w1 D2 ρ2 H2 w2) (t : Stp WB D2 ρ2 H2 w2 D3 ρ3 H3 w3) : Stp WB D1 ρ1 H1 w1 D3 ρ3 H3 w3 where
  d := fun b h => t.d b (s.d b h)
  r := fun b h => (t.r b (s.d b h)).trans (s.r b h)
  fresh := fun b h => by
    rcases t.fresh b h with h | ⟨h1, h2⟩
    · rcases s.fresh b h with h | ⟨h1, h2⟩
      · exact .inl h
      · exact .inr ⟨h1, Nat.lt_of_lt_of_le h2 t.next⟩
    · exact .inr ⟨Nat.le_trans s.next h1, h2⟩
  next := Nat.le_trans s.next t.next
  size := Nat.le_trans s.size t.size
  shp := fun r x h => t.shp r x (s.shp r x h)
  os := t.os.trans s.os
  tape := t.tape.trans s.tape
  output := t.output.trans s.output
  frame := fun r hr h => by
    rw [t.frame r (Nat.lt_of_lt_of_le hr s.size) ?_, s.frame r hr h]
    intro b hb hwb e
    rcases s.img b hb with hl | ⟨h1, h2 | ⟨a, ha, hwa, he⟩⟩
    · exact h b hl hwb ((s.r b (hd1 b hl)).symm.trans e)
    · omega
    · exact h a ha hwa (he.symm.trans e)
  img := fun b hb => by
    rcases t.img b hb with hl | ⟨h1, h2⟩
    · rcases s.img b hl with hl' | ⟨h3, h4⟩
      · exact .inl hl'
      · refine .inr ⟨h3, ?_⟩
        rw [t.r b (hd2 b hl)]
        exact h4
    · refine .inr ⟨Nat.le_trans s.next h1, ?_⟩
      rcases h2 with h2 | ⟨a, ha, hwa, he⟩
      · exact .inl (Nat.le_trans s.size h2)
      · rcases s.img a ha with hl | ⟨h3, h4⟩
        · exact .inr ⟨a, hl, hwa, by rw [he]; exact s.r a (hd1 a hl)⟩
        · rw [he]; exact h4
end
end
end Go.Ev
