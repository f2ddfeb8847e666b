/- A plain evaluator of Go code over an abstract memory: its data. Nothing is proved here but small laws of lists and tries. -/
import Derived.Orders
namespace Go.Ev
open Go
noncomputable section

/-- A slice's capacity: so many elements; or not known, of elements of so many cells. -/
inductive Cap where
  | is (c : Nat)
  | more (size : Nat)
  deriving DecidableEq

/-- An abstract value: memory is named by numbers of its own (id, cell). -/
inductive AV where
  | bool (b : Bool)
  | int (k : IntKind) (n : Int)
  | str (s : List UInt8)
  | ptr (a : Option (Nat × Nat))
  | slice (a : Option (Nat × Nat)) (len : Nat) (cap : Cap)
  | map (r : Option Nat)
  | func (fn : Fn) (first captured : List AV)
  | nilFunc
  | iface (t : TypeId) (v : AV)
  | nilIface
  | agg (cells : List AV)
  | tup (vs : List AV)
  | opq (v : Value)

def AV.cells : AV → List AV
  | .agg cs => cs
  | v => [v]

def AV.undef : AV := .tup []

/-- A trie with numbers for keys. -/
inductive Tr (α : Type) where
  | nil
  | node (a : Option α) (l r : Tr α)

namespace Tr
variable {α : Type}
/-- What stands at a number. -/
def get (t : Tr α) : Nat → Option α :=
  Tr.rec (motive := fun _ => Nat → Option α) (fun _ => none)
    (fun a _ _ gl gr n => Nat.rec (motive := fun _ => Option α) a (fun m _ => Bool.rec (motive := fun _ => Option α) (gr (m / 2)) (gl (m / 2)) (Nat.beq (m % 2) 0)) n) t
theorem get_nil (n : Nat) : (nil : Tr α).get n = none := rfl
theorem get_zero (a : Option α) (l r : Tr α) : (node a l r).get 0 = a := rfl
theorem get_succ (a : Option α) (l r : Tr α) (m : Nat) : (node a l r).get (m + 1) = bif Nat.beq (m % 2) 0 then l.get (m / 2) else r.get (m / 2) := by
  show Bool.rec (motive := fun _ => Option α) (r.get (m / 2)) (l.get (m / 2)) (Nat.beq (m % 2) 0) = _
  cases Nat.beq (m % 2) 0 <;> rfl

/-- Where the new trie goes on to a continuation: what is handed on is built whole. -/
def setK {β : Type} (v : Option α) (f : Nat) : Tr α → Nat → (Tr α → β) → β :=
  Nat.rec (motive := fun _ => Tr α → Nat → (Tr α → β) → β) (fun t _ k => k t)
    (fun _ ih t => Tr.rec (motive := fun _ => Nat → (Tr α → β) → β)
      (fun n k => Nat.rec (motive := fun _ => β) (k (.node v .nil .nil))
        (fun m _ => Bool.rec (motive := fun _ => β) (ih .nil (m / 2) fun r => k (.node none .nil r)) (ih .nil (m / 2) fun l => k (.node none l .nil)) (Nat.beq (m % 2) 0)) n)
      (fun a l r _ _ n k => Nat.rec (motive := fun _ => β) (k (.node v l r))
        (fun m _ => Bool.rec (motive := fun _ => β) (ih r (m / 2) fun r' => k (.node a l r')) (ih l (m / 2) fun l' => k (.node a l' r)) (Nat.beq (m % 2) 0)) n) t) f
section
variable {β : Type} (v : Option α) (f : Nat)
theorem setK_0 (t : Tr α) (n : Nat) (k : Tr α → β) : setK v 0 t n k = k t := rfl
theorem setK_nil0 (k : Tr α → β) : setK v (f + 1) .nil 0 k = k (.node v .nil .nil) := rfl
theorem setK_node0 (a : Option α) (l r : Tr α) (k : Tr α → β) : setK v (f + 1) (.node a l r) 0 k = k (.node v l r) := rfl
theorem setK_nils (m : Nat) (k : Tr α → β) : setK v (f + 1) .nil (m + 1) k =
    bif Nat.beq (m % 2) 0 then setK v f .nil (m / 2) fun l => k (.node none l .nil) else setK v f .nil (m / 2) fun r => k (.node none .nil r) := by
  show Bool.rec (motive := fun _ => β) (setK v f .nil (m / 2) fun r => k (.node none .nil r)) (setK v f .nil (m / 2) fun l => k (.node none l .nil)) (Nat.beq (m % 2) 0) = _
  cases Nat.beq (m % 2) 0 <;> rfl
theorem setK_nodes (a : Option α) (l r : Tr α) (m : Nat) (k : Tr α → β) : setK v (f + 1) (.node a l r) (m + 1) k =
    bif Nat.beq (m % 2) 0 then setK v f l (m / 2) fun l' => k (.node a l' r) else setK v f r (m / 2) fun r' => k (.node a l r') := by
  show Bool.rec (motive := fun _ => β) (setK v f r (m / 2) fun r' => k (.node a l r')) (setK v f l (m / 2) fun l' => k (.node a l' r)) (Nat.beq (m % 2) 0) = _
  cases Nat.beq (m % 2) 0 <;> rfl
end

def set (t : Tr α) (n : Nat) (v : Option α) : Tr α := setK v (n + 1) t n id

theorem setK_eq {β : Type} (v : Option α) : ∀ (f : Nat) (t : Tr α) (n : Nat) (k : Tr α → β), setK v f t n k = k (setK v f t n id)
  | 0, _, _, _ => rfl
  | f + 1, .nil, 0, _ => rfl
  | f + 1, .node .., 0, _ => rfl
  | f + 1, .nil, m + 1, k => by
    simp only [setK_nils]
    cases Nat.beq (m % 2) 0 <;> simp only [cond_true, cond_false]
    · rw [setK_eq v f .nil (m / 2) fun r => k (.node none .nil r), setK_eq v f .nil (m / 2) fun r => id (Tr.node none .nil r)]; rfl
    · rw [setK_eq v f .nil (m / 2) fun l => k (.node none l .nil), setK_eq v f .nil (m / 2) fun l => id (Tr.node none l .nil)]; rfl
  | f + 1, .node a l r, m + 1, k => by
    simp only [setK_nodes]
    cases Nat.beq (m % 2) 0 <;> simp only [cond_true, cond_false]
    · rw [setK_eq v f r (m / 2) fun r' => k (.node a l r'), setK_eq v f r (m / 2) fun r' => id (Tr.node a l r')]; rfl
    · rw [setK_eq v f l (m / 2) fun l' => k (.node a l' r), setK_eq v f l (m / 2) fun l' => id (Tr.node a l' r)]; rfl

theorem get_setF (v : Option α) : ∀ (f : Nat) (t : Tr α) (n : Nat), n < f → ∀ m, (setK v f t n id).get m = if m = n then v else t.get m
  | 0, _, _, h => by omega
  | f + 1, .nil, 0, _ => by
    intro m
    cases m with
    | zero => simp [setK_nil0, get_zero]
    | succ m => simp only [setK_nil0, id, get_succ, get_nil]; cases Nat.beq (m % 2) 0 <;> simp
  | f + 1, .node a l r, 0, _ => by
    intro m
    cases m with
    | zero => simp [setK_node0, get_zero]
    | succ m => simp only [setK_node0, id, get_succ]; simp
  | f + 1, .nil, n + 1, h => by
    intro m
    have ih := get_setF v f .nil (n / 2) (by omega)
    simp only [setK_nils]
    cases hb : Nat.beq (n % 2) 0
    · have hn : n % 2 = 1 := by have := Nat.ne_of_beq_eq_false hb; omega
      simp only [cond_false]
      rw [setK_eq]
      cases m with
      | zero => simp [get_zero, get_nil]
      | succ m =>
        simp only [id, get_succ]
        cases hm : Nat.beq (m % 2) 0
        · have hm' : m % 2 = 1 := by have := Nat.ne_of_beq_eq_false hm; omega
          simp only [cond_false]
          rw [ih]
          by_cases e : m = n
          · simp [e]
          · have : m / 2 ≠ n / 2 := by omega
            simp [e, this, get_nil]
        · have hm' : m % 2 = 0 := Nat.eq_of_beq_eq_true hm
          have : m ≠ n := by omega
          simp [this, get_nil]
    · have hn : n % 2 = 0 := Nat.eq_of_beq_eq_true hb
      simp only [cond_true]
      rw [setK_eq]
      cases m with
      | zero => simp [get_zero, get_nil]
      | succ m =>
        simp only [id, get_succ]
        cases hm : Nat.beq (m % 2) 0
        · have hm' : m % 2 = 1 := by have := Nat.ne_of_beq_eq_false hm; omega
          have : m ≠ n := by omega
          simp [this, get_nil]
        · have hm' : m % 2 = 0 := Nat.eq_of_beq_eq_true hm
          simp only [cond_true]
          rw [ih]
          by_cases e : m = n
          · simp [e]
          · have : m / 2 ≠ n / 2 := by omega
            simp [e, this, get_nil]
  | f + 1, .node a l r, n + 1, h => by
    intro m
    have ihl := get_setF v f l (n / 2) (by omega)
    have ihr := get_setF v f r (n / 2) (by omega)
    simp only [setK_nodes]
    cases hb : Nat.beq (n % 2) 0
    · have hn : n % 2 = 1 := by have := Nat.ne_of_beq_eq_false hb; omega
      simp only [cond_false]
      rw [setK_eq]
      cases m with
      | zero => simp [get_zero]
      | succ m =>
        simp only [id, get_succ]
        cases hm : Nat.beq (m % 2) 0
        · have hm' : m % 2 = 1 := by have := Nat.ne_of_beq_eq_false hm; omega
          simp only [cond_false]
          rw [ihr]
          by_cases e : m = n
          · simp [e]
          · have : m / 2 ≠ n / 2 := by omega
            simp [e, this]
        · have hm' : m % 2 = 0 := Nat.eq_of_beq_eq_true hm
          have : m ≠ n := by omega
          simp [this]
    · have hn : n % 2 = 0 := Nat.eq_of_beq_eq_true hb
      simp only [cond_true]
      rw [setK_eq]
      cases m with
      | zero => simp [get_zero]
      | succ m =>
        simp only [id, get_succ]
        cases hm : Nat.beq (m % 2) 0
        · have hm' : m % 2 = 1 := by have := Nat.ne_of_beq_eq_false hm; omega
          have : m ≠ n := by omega
          simp [this]
        · have hm' : m % 2 = 0 := Nat.eq_of_beq_eq_true hm
          simp only [cond_true]
          rw [ihl]
          by_cases e : m = n
          · simp [e]
          · have : m / 2 ≠ n / 2 := by omega
            simp [e, this]

theorem get_set (t : Tr α) (n : Nat) (v : Option α) (m : Nat) : (t.set n v).get m = if m = n then v else t.get m :=
  get_setF v (n + 1) t n (Nat.lt_succ_self n) m

theorem setK_set {β : Type} (t : Tr α) (n : Nat) (v : Option α) (k : Tr α → β) : setK v (n + 1) t n k = k (t.set n v) := setK_eq v (n + 1) t n k
end Tr

/-! Lists that are handed on whole. -/
section
variable {α β γ : Type}
def wholeK (l : List α) : (List α → β) → β :=
  List.rec (motive := fun _ => (List α → β) → β) (fun k => k []) (fun a _ ih k => ih fun l' => k (a :: l')) l
theorem wholeK_eq : ∀ (l : List α) (k : List α → β), wholeK l k = k l
  | [], _ => rfl
  | a :: l, k => wholeK_eq l fun l' => k (a :: l')
def appK (x y : List α) : (List α → β) → β :=
  List.rec (motive := fun _ => (List α → β) → β) (fun k => k y) (fun a _ ih k => ih fun l' => k (a :: l')) x
theorem appK_eq : ∀ (x y : List α) (k : List α → β), appK x y k = k (x ++ y)
  | [], _, _ => rfl
  | a :: l, y, k => appK_eq l y fun l' => k (a :: l')
def takeK (n : Nat) : List α → (List α → β) → β :=
  Nat.rec (motive := fun _ => List α → (List α → β) → β) (fun _ k => k [])
    (fun _ ih l => List.rec (motive := fun _ => (List α → β) → β) (fun k => k []) (fun a t _ k => ih t fun l' => k (a :: l')) l) n
theorem takeK_eq : ∀ (n : Nat) (l : List α) (k : List α → β), takeK n l k = k (l.take n)
  | 0, _, k => by show k [] = _; simp
  | _ + 1, [], k => by show k [] = _; simp
  | n + 1, a :: l, k => by
    show takeK n l (fun l' => k (a :: l')) = _
    rw [takeK_eq n l]; simp
/-- A part of a list laid over it. -/
def splice (l : List α) (off : Nat) (v : List α) : List α := l.take off ++ v ++ l.drop (off + v.length)
def mapK (f : α → γ) (l : List α) : (List γ → β) → β :=
  List.rec (motive := fun _ => (List γ → β) → β) (fun k => k []) (fun a _ ih k => ih fun l' => k (f a :: l')) l
theorem mapK_eq (f : α → γ) : ∀ (l : List α) (k : List γ → β), mapK f l k = k (l.map f)
  | [], _ => rfl
  | a :: l, k => mapK_eq f l fun l' => k (f a :: l')
end

/-- A number that is handed on as a numeral. -/
def natK {β : Type} (n : Nat) (k : Nat → β) : β := Nat.rec (motive := fun _ => β) (k 0) (fun m _ => k (m + 1)) n
theorem natK_eq {β : Type} (n : Nat) (k : Nat → β) : natK n k = k n := by cases n <;> rfl
def intK {β : Type} (n : Int) (k : Int → β) : β := Int.rec (motive := fun _ => β) (fun m => natK m fun m => k (.ofNat m)) (fun m => natK m fun m => k (.negSucc m)) n
theorem intK_eq {β : Type} (n : Int) (k : Int → β) : intK n k = k n := by cases n <;> simp only [intK, natK_eq]
def bindO {α β : Type} (x : Option α) (k : α → Option β) : Option β := Option.rec (motive := fun _ => Option β) none k x
theorem bindO_some {α β : Type} (a : α) (k : α → Option β) : bindO (some a) k = k a := rfl
theorem bindO_none {α β : Type} (k : α → Option β) : bindO none k = none := rfl
theorem bindO_eq {α β : Type} (x : Option α) (k : α → Option β) (b : β) : bindO x k = some b ↔ ∃ a, x = some a ∧ k a = some b := by
  cases x <;> simp [bindO]

section
variable {α β γ : Type}
/-- The element at a place. -/
def nth (l : List α) : Nat → Option α :=
  List.rec (motive := fun _ => Nat → Option α) (fun _ => none) (fun a _ ih n => Nat.rec (motive := fun _ => Option α) (some a) (fun m _ => ih m) n) l
theorem nth_eq : ∀ (l : List α) (n : Nat), nth l n = l[n]?
  | [], n => by simp [nth]
  | a :: l, 0 => by show some a = _; simp
  | a :: l, n + 1 => by
    show nth l n = _
    rw [nth_eq l n]; simp
def dropR (n : Nat) : List α → List α :=
  Nat.rec (motive := fun _ => List α → List α) (fun l => l) (fun _ ih l => List.rec (motive := fun _ => List α) [] (fun _ t _ => ih t) l) n
theorem dropR_eq : ∀ (n : Nat) (l : List α), dropR n l = l.drop n
  | 0, l => by show l = _; simp
  | n + 1, [] => by show [] = _; simp
  | n + 1, a :: l => by
    show dropR n l = _
    rw [dropR_eq n l]; simp
def lenA (l : List α) : Nat → Nat := List.rec (motive := fun _ => Nat → Nat) (fun n => n) (fun _ _ ih n => natK (n + 1) ih) l
theorem lenA_eq : ∀ (l : List α) (n : Nat), lenA l n = n + l.length
  | [], n => rfl
  | a :: l, n => by
    show natK (n + 1) (lenA l) = _
    rw [natK_eq, lenA_eq l (n + 1)]; simp; omega
def lenR (l : List α) : Nat := lenA l 0
theorem lenR_eq (l : List α) : lenR l = l.length := by rw [lenR, lenA_eq]; omega
end

end
end Go.Ev
