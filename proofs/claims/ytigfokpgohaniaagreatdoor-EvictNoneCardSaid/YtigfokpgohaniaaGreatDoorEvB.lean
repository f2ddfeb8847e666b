/- The plain evaluator: what each operation of the code does to abstract values and to the abstract memory. 'none': not covered. -/
import Derived.Test.YtigfokpgohaniaaGreatDoorEvA
namespace Go.Ev
open Go
noncomputable section

/-- A block of the abstract memory. 'fz': none: no cell was ever handed to a string; some k: from cell k on none was. -/
inductive AObj where
  | cells (cs : List AV) (e : TypeId) (fz : Option Nat)
  | map (es : List (AV × AV × Nat)) (clock : Nat)
  | siter (s : List UInt8) (pos : Nat)
  | miter (m : Option Nat) (since : Nat) (seen : List Nat) (last : Nat)

structure AH where
  m : Tr AObj
  next : Nat

section
variable (P : Program)

def szO (t : TypeId) : Option Nat := (P.info? t).map (·.size)
def aggT (t : TypeId) : Option Bool := match P.underlying t with
  | some (.struct _) => some true
  | some (.array _ _) => some true
  | some _ => some false
  | none => none

/-- A constant of one cell. -/
def ofVal1 : Value → Option AV
  | .bool b => some (.bool b)
  | .int k n => some (.int k n)
  | .string s => some (.str s.data.toList)
  | .pointer none => some (.ptr none)
  | .slice none 0 0 => some (.slice none 0 (.is 0))
  | .map none => some (.map none)
  | .nilFunc => some .nilFunc
  | .nilIface => some .nilIface
  | _ => none

def ofVals : List Value → Option (List AV)
  | [] => some []
  | v :: l => match ofVal1 v, ofVals l with
    | some a, some r => some (a :: r)
    | _, _ => none

def ofVal : Value → Option AV
  | .agg cs => (ofVals cs.toList).map .agg
  | .tuple vs => (ofVals vs.toList).map .tup
  | v => ofVal1 v

def zeroV (t : TypeId) : Option AV := match P.info? t with
  | some i => match i.zero with
    | some v => ofVal v
    | none => none
  | none => none

/-! Whole numbers. -/
def ltI : Int → Int → Bool
  | .ofNat m, .ofNat n => Nat.blt m n
  | .ofNat _, .negSucc _ => false
  | .negSucc _, .ofNat _ => true
  | .negSucc m, .negSucc n => Nat.blt n m
def eqI : Int → Int → Bool
  | .ofNat m, .ofNat n => Nat.beq m n
  | .negSucc m, .negSucc n => Nat.beq m n
  | _, _ => false
def addI : Int → Int → Int
  | .ofNat m, .ofNat n => .ofNat (m + n)
  | a, b => Int.add a b
def subI : Int → Int → Int
  | .ofNat m, .ofNat n => bif Nat.ble n m then .ofNat (m - n) else .negSucc (n - m - 1)
  | a, b => Int.sub a b
def mulI : Int → Int → Int
  | .ofNat m, .ofNat n => .ofNat (m * n)
  | a, b => Int.mul a b
/-- Are two kinds the same? -/
def idx : IntKind → Nat
  | .i8 => 0 | .i16 => 1 | .i32 => 2 | .i64 => 3 | .u8 => 4 | .u16 => 5 | .u32 => 6 | .u64 => 7
def sameK (k l : IntKind) : Bool := Nat.beq (idx k) (idx l)
/-- 'k.wrap', quick where nothing is to be wrapped. -/
def lim (k : IntKind) : Nat := match k with
  | .u8 => 256 | .u16 => 65536 | .u32 => 4294967296 | .u64 => 18446744073709551616
  | .i8 => 128 | .i16 => 32768 | .i32 => 2147483648 | .i64 => 9223372036854775808
def unsigned : IntKind → Bool
  | .i8 => false | .i16 => false | .i32 => false | .i64 => false | .u8 => true | .u16 => true | .u32 => true | .u64 => true
def wrapI (k : IntKind) (n : Int) : Int :=
  match n with
  | .ofNat m => bif Nat.blt m (lim k) then .ofNat m else bif unsigned k then .ofNat (m % lim k) else k.wrap (.ofNat m)
  | .negSucc m => bif unsigned k then k.wrap (.negSucc m) else bif Nat.blt m (lim k) then .negSucc m else k.wrap (.negSucc m)
def mkI (k : IntKind) (n : Int) : Option AV := intK n fun n => some (.int k n)
def wrI (k : IntKind) (n : Int) : Option AV := mkI k (wrapI k n)
def mkB (b : Bool) : Option AV := Bool.rec (motive := fun _ => Option AV) (some (.bool false)) (some (.bool true)) b
/-- Digit by digit. -/
def bits2 (f : Nat → Nat → Nat) (k : IntKind) (x y : Int) : Option AV :=
  match x, y with
  | .ofNat m, .ofNat n => bif Nat.blt m (lim k) && Nat.blt n (lim k) then mkI k (.ofNat (f m n)) else none
  | _, _ => none
def nandn (m n : Nat) : Nat := Nat.xor m (Nat.land m n)
def addV (k : IntKind) (x y : Int) : Option AV := wrI k (addI x y)
def subV (k : IntKind) (x y : Int) : Option AV := wrI k (subI x y)
def mulV (k : IntKind) (x y : Int) : Option AV := wrI k (mulI x y)
def quoV (k : IntKind) (x y : Int) : Option AV := bif eqI y 0 then none else wrI k (x.tdiv y)
def remV (k : IntKind) (x y : Int) : Option AV := bif eqI y 0 then none else mkI k (x.tmod y)
def eqlV (_ : IntKind) (x y : Int) : Option AV := mkB (eqI x y)
def neqV (_ : IntKind) (x y : Int) : Option AV := mkB (!eqI x y)
def lssV (_ : IntKind) (x y : Int) : Option AV := mkB (ltI x y)
def leqV (_ : IntKind) (x y : Int) : Option AV := mkB (!ltI y x)
def gtrV (_ : IntKind) (x y : Int) : Option AV := mkB (ltI y x)
def geqV (_ : IntKind) (x y : Int) : Option AV := mkB (!ltI x y)
def noV (_ : IntKind) (_ _ : Int) : Option AV := none
def intBin (op : BinOp) : IntKind → Int → Int → Option AV :=
  match op with
  | .add => addV | .sub => subV | .mul => mulV | .quo => quoV | .rem => remV
  | .and => bits2 Nat.land | .or => bits2 Nat.lor | .xor => bits2 Nat.xor | .andNot => noV
  | .eql => eqlV | .neq => neqV | .lss => lssV | .leq => leqV | .gtr => gtrV | .geq => geqV
  | .shl => noV | .shr => noV
def shlV (k : IntKind) (x : Int) (n : Nat) : Option AV := wrI k (mulI x (.ofNat (Nat.pow 2 n)))
def shrV (k : IntKind) (x : Int) (n : Nat) : Option AV := mkI k (match x with | .ofNat a => .ofNat (Nat.shiftRight a n) | .negSucc a => .negSucc (Nat.shiftRight a n))
def shiftI (f : IntKind → Int → Nat → Option AV) (k : IntKind) (x y : Int) : Option AV :=
  match y with
  | .negSucc _ => none
  | .ofNat m => f k x (Nat.min m k.bits)

/-! Texts. -/
def eqB (a b : UInt8) : Bool := Nat.beq a.toNat b.toNat
def eqS : List UInt8 → List UInt8 → Bool
  | [], [] => true
  | a :: x, b :: y => match eqB a b with | true => eqS x y | false => false
  | _, _ => false
def ltS : List UInt8 → List UInt8 → Bool
  | _, [] => false
  | [], _ :: _ => true
  | a :: x, b :: y => match Nat.blt a.toNat b.toNat with | true => true | false => match eqB a b with | true => ltS x y | false => false
def catS (x y : List UInt8) : Option AV := bif Nat.blt (lenR x + lenR y) 4611686018427387904 then appK x y fun z => some (.str z) else none
def strBin (op : BinOp) : List UInt8 → List UInt8 → Option AV :=
  match op with
  | .add => catS
  | .eql => fun x y => mkB (eqS x y)
  | .neq => fun x y => mkB (!eqS x y)
  | .lss => fun x y => mkB (ltS x y)
  | .leq => fun x y => mkB (ltS x y || eqS x y)
  | .gtr => fun x y => mkB (!(ltS x y || eqS x y))
  | .geq => fun x y => mkB (!ltS x y)
  | _ => fun _ _ => none

/-- A part of a struct's or an array's cells. -/
def partE (t : TypeId) (cs : List AV) (off : Nat) : Option AV :=
  match aggT P t with
  | some true => match szO P t with
    | some n => takeK n (dropR off cs) fun l => some (.agg l)
    | none => none
  | some false => nth cs off
  | none => none

/-- Field by field. -/
def eqFs (eq : TypeId → AV → AV → Option Bool) : List Field → List AV → List AV → Option Bool
  | [], _, _ => some true
  | f :: fs, xs, ys => match decide (f.name = "_") with
    | true => eqFs eq fs xs ys
    | false => match partE P f.type xs f.offset, partE P f.type ys f.offset with
      | some a, some b => match eq f.type a b with
        | some true => eqFs eq fs xs ys
        | some false => some false
        | none => none
      | _, _ => none

/-- Are two values of a type the same? -/
def eqE : Nat → TypeId → AV → AV → Option Bool
  | 0, _, _, _ => none
  | d + 1, t, x, y =>
    match P.underlying t with
    | some .bool => match x, y with | .bool a, .bool b => some (a == b) | _, _ => none
    | some (.int _) => match x, y with | .int k a, .int k' b => if k = k' then some (eqI a b) else none | _, _ => none
    | some .string => match x, y with | .str a, .str b => some (eqS a b) | _, _ => none
    | some (.pointer e) => match x, y with
      | .ptr none, .ptr none => some true
      | .ptr none, .ptr (some _) => some false
      | .ptr (some _), .ptr none => some false
      | .ptr (some (a, i)), .ptr (some (b, j)) => match szO P e with
        | some (_ + 1) => bif Nat.beq a b then some (Nat.beq i j) else none
        | _ => none
      | _, _ => none
    | some (.interface _) => match x, y with
      | .nilIface, .nilIface => some true
      | .nilIface, .iface _ _ => some false
      | .iface _ _, .nilIface => some false
      | _, _ => none
    | some (.struct fs) => match x, y with
      | .agg xs, .agg ys => bif P.stoodInHeld t then none else eqFs P (fun t x y => eqE d t x y) fs.toList xs ys
      | _, _ => none
    | some (.slice _) => match x, y with
      | .slice none _ _, .slice none _ _ => some true
      | .slice none _ _, .slice (some _) _ _ => some false
      | .slice (some _) _ _, .slice none _ _ => some false
      | _, _ => none
    | some (.map _ _) => match x, y with
      | .map none, .map none => some true
      | .map none, .map (some _) => some false
      | .map (some _), .map none => some false
      | _, _ => none
    | some (.func _ _ _) => match x, y with
      | .nilFunc, .nilFunc => some true
      | .nilFunc, .func .. => some false
      | .func .., .nilFunc => some false
      | _, _ => none
    | _ => none

end
end
end Go.Ev
