/-
  The map of package atom, by the words of the library's maps: block b is a map that tells of each key what it has (whether, the value, the batch); look-up, store and delete at the operation.
-/
import Derived.Test.YtfaelejeihmgcaaDoorProg
import Derived.Maps.OwnSet
import Derived.WalkKit
import Derived.KernelRfl
namespace Go.Proofs.YtfaelejeihmgcaaDoor.Atm
open Go.RowKit Go.Maps

/-- what a key has: whether, the value, the batch -/
abbrev Had := Bool × ByteArray × Int
def nought : Had := (false, ⟨#[]⟩, 0)
def datum (x : Had) : DataW Unit := .agg [.lit (.bool x.1), .lit (.string x.2.1.data.toList), .lit (.int .u32 x.2.2)]

theorem bytes_inj {a b : ByteArray} (h : a.data.toList = b.data.toList) : a = b := by
  obtain ⟨⟨a⟩⟩ := a
  obtain ⟨⟨b⟩⟩ := b
  simp at h
  rw [h]

theorem datum_inj {x y : Had} (h : datum x = datum y) : x = y := by
  obtain ⟨a, b, c⟩ := x
  obtain ⟨a', b', c'⟩ := y
  simp only [datum, DataW.agg.injEq, List.cons.injEq, DataW.lit.injEq, Lit.bool.injEq, Lit.string.injEq, Lit.int.injEq, and_true, true_and] at h
  obtain ⟨h1, h2, h3⟩ := h
  rw [h1, bytes_inj h2, h3]

/-- How an element reads: its own key is not looked at. -/
def ansElem : Value → Option (DataW Unit × List MemPlace)
  | .agg ⟨[.string _, .bool i, .string s, .int .u32 f]⟩ => some (datum (i, s, f), [])
  | _ => none

def ansVal (k : ByteArray) (x : Had) : Value := .agg #[.string k, .bool x.1, .string x.2.1, .int .u32 x.2.2]

theorem ansElem_mk (k : ByteArray) (x : Had) : ansElem (ansVal k x) = some (datum x, []) := rfl

theorem ansElem_inv {v : Value} {z : DataW Unit × List MemPlace} (h : ansElem v = some z) : ∃ k x, v = ansVal k x ∧ z = (datum x, []) := by
  unfold ansElem at h
  split at h
  · rename_i k i s f
    cases h
    exact ⟨k, (i, s, f), rfl, rfl⟩
  · cases h

theorem law : Keyed Tryd.prog 9 := string_keyed Tryd.underlying9
theorem zeroE (w : World) : (zeroValue 98).run Tryd.prog w = .ok (ansVal ⟨#[]⟩ nought) w := by kernel_rfl

/-- Block b is a map of at most n entries that tells M. -/
structure MapIs (w : World) (b n : Nat) (M : ByteArray → Had) : Prop where
  out : ∃ D, w.ownsMap Tryd.prog 9 ansElem b n D ∧ ∀ k : ByteArray, D.atKey (.string k.data.toList) (datum nought) = datum (M k)

def putM (M : ByteArray → Had) (k : ByteArray) (x : Had) : ByteArray → Had := fun k' => if k' = k then x else M k'

theorem MapIs.made (w : World) : MapIs (w.alloc (.map #[] 0)) w.heap.size 0 (fun _ => nought) :=
  ⟨_, World.ownsMap_made w Tryd.prog 9 ansElem, fun _ => rfl⟩

theorem MapIs.lt {w : World} {b n : Nat} {M : ByteArray → Had} (h : MapIs w b n M) : b < w.heap.size := by
  obtain ⟨D, h, _⟩ := h
  exact h.lt

theorem MapIs.mono {w : World} {b n n' : Nat} {M : ByteArray → Had} (h : MapIs w b n M) (hn : n ≤ n') : MapIs w b n' M := by
  obtain ⟨D, h, hM⟩ := h
  exact ⟨D, h.mono hn, hM⟩

theorem MapIs.move {w w' : World} {b n : Nat} {M : ByteArray → Had} (h : MapIs w b n M) (he : w'.heap[b]? = w.heap[b]?) : MapIs w' b n M := by
  obtain ⟨D, ⟨es, clock, hb, r⟩, hM⟩ := h
  exact ⟨D, ⟨es, clock, he.trans hb, r⟩, hM⟩

theorem MapIs.below {w w' : World} {b n : Nat} {M : ByteArray → Had} (h : MapIs w b n M) (hb : Below w.heap.size w w') : MapIs w' b n M := h.move (hb.block b h.lt)

theorem MapIs.is_map {w : World} {b n : Nat} {M : ByteArray → Had} (h : MapIs w b n M) : ∃ es clock, w.heap[b]? = some (.map es clock) := by
  obtain ⟨D, ⟨es, clock, hb, _⟩, _⟩ := h
  exact ⟨es, clock, hb⟩

theorem keyed (k : ByteArray) (hk : k.size ≤ maxLen) : keyOf Tryd.prog 9 (.string k) = some (.string k.data.toList) := WideMaps.keyOf_string_mk Tryd.underlying9 hk

theorem lit_ne {k k' : ByteArray} (h : k' ≠ k) : Lit.string k'.data.toList ≠ Lit.string k.data.toList := fun e => h (bytes_inj (by simpa using e))

section
variable {ops : Array Oper} {rest : List Oper} {o : Oper} {a : Act} {Q : Exit → Act → World → Prop}

/-- 'm[k]' -/
theorem wpList_look (w : World) (hg : o.guard = none) (m x : Operand) (hop : o.op = Op.lookup 142 m x false) (b n : Nat) (M : ByteArray → Had)
    (hm : a.eval m = .map (some b)) (h : MapIs w b n M) (k : ByteArray) (hx : a.eval x = .string k) (hk : k.size ≤ maxLen)
    (hK : ∀ k', wpList Tryd.prog ops Q rest (a.put o.dst (ansVal k' (M k))) w) :
    wpList Tryd.prog ops Q (o :: rest) a w := by
  refine wpList_plain hg fun K' hK' => ?_
  obtain ⟨D, hown, hM⟩ := h
  obtain ⟨v, ps, hrun, hv⟩ := hown.lookup law Tryd.underlying142 (zeroE w) (ansElem_mk _ _) (keyed k hk)
  obtain ⟨k', y, rfl, hz⟩ := ansElem_inv hv
  rw [hM k] at hz
  simp only [Prod.mk.injEq] at hz
  obtain rfl := datum_inj hz.1
  unfold Oper.wp
  simp [execOp, hop, hm, hx, hrun, Result.andThen]
  exact hK' _ _ (hK k')

/-- 'm[k] = v' -/
theorem wpList_put (w : World) (hg : o.guard = none) (m x v : Operand) (hop : o.op = Op.mapUpdate 142 m x v) (b n : Nat) (M : ByteArray → Had)
    (hm : a.eval m = .map (some b)) (h : MapIs w b n M) (hn : n < maxLen) (k k' : ByteArray) (y : Had) (hx : a.eval x = .string k) (hv : a.eval v = ansVal k' y) (hk : k.size ≤ maxLen)
    (hK : ∀ w', MapIs w' b (n + 1) (putM M k y) → w.grownBy w' (some b) → wpList Tryd.prog ops Q rest (a.put o.dst undef) w') :
    wpList Tryd.prog ops Q (o :: rest) a w := by
  obtain ⟨D, hown, hM⟩ := h
  refine wpList_mapUpdate_in w hg m x v 142 hop 9 98 law Tryd.underlying142 ansElem b n D hm hown hn _ _ _ hx hv (keyed k hk) _ _ (ansElem_mk k' y) ?_
  intro w' h1 ht
  refine hK w' ⟨_, h1, fun q => ?_⟩ ht.grown
  unfold putM
  by_cases hq : q = k
  · subst hq
    rw [if_pos rfl]
    exact atKey_put_same hown.isMap (law.key (keyed q hk)) _ _
  · rw [if_neg hq, atKey_put_other (lit_ne hq)]
    exact hM q

/-- 'delete(m, k)' -/
theorem wpList_del (w : World) (hg : o.guard = none) (m x : Operand) (hop : o.op = Op.call { callee := Callee.builtin Builtin.delete, args := #[m, x], argTypes := #[142, 9] }) (b n : Nat) (M : ByteArray → Had)
    (hm : a.eval m = .map (some b)) (h : MapIs w b n M) (k : ByteArray) (hx : a.eval x = .string k) (hk : k.size ≤ maxLen)
    (hK : ∀ w', MapIs w' b n (putM M k nought) → w.grownBy w' (some b) → wpList Tryd.prog ops Q rest (a.put o.dst (.tuple #[])) w') :
    wpList Tryd.prog ops Q (o :: rest) a w := by
  obtain ⟨D, hown, hM⟩ := h
  refine wpList_delete_own w hg m x 142 9 hop 98 law Tryd.underlying142 ansElem b n D hm hown _ _ hx (keyed k hk) ?_
  intro w' h1 ht
  refine hK w' ⟨_, h1, fun q => ?_⟩ ht.grown
  unfold putM
  by_cases hq : q = k
  · subst hq
    rw [if_pos rfl]
    exact atKey_del_same _
  · rw [if_neg hq, atKey_del_other (lit_ne hq)]
    exact hM q
end

end Go.Proofs.YtfaelejeihmgcaaDoor.Atm
