/- The plain evaluator: operations. -/
import Derived.Test.YtigfokpgohaniaaGreatDoorEvB
namespace Go.Ev
open Go
noncomputable section

/-- Something closed, reckoned once. -/
structure Box (α : Type) where
  f : α

section
variable (P : Program)

/-! Operands. -/
section
variable (B : Nat)
def opnd : Operand → Box (Tr AV → Option AV)
  | .tmp t => ⟨fun E => E.get t⟩
  | .const v => match ofVal v with
    | some a => ⟨fun _ => some a⟩
    | none => ⟨fun _ => none⟩
  | .global g => bif Nat.blt g B then ⟨fun _ => some (.ptr (some (g, 0)))⟩ else ⟨fun _ => none⟩
  | .func f => ⟨fun _ => some (.func (.func f) [] [])⟩
def evO (E : Tr AV) (x : Operand) : Option AV := (opnd B x).f E
def opnds (l : List Operand) : Box (Tr AV → Option (List AV)) :=
  List.rec (motive := fun _ => Box (Tr AV → Option (List AV))) ⟨fun _ => some []⟩
    (fun x _ r => ⟨fun E => bindO ((opnd B x).f E) fun v => bindO (r.f E) fun r => some (v :: r)⟩) l
def evL (E : Tr AV) (l : List Operand) : Option (List AV) := (opnds B l).f E
def opndP (l : List (Nat × Operand)) : Box (Tr AV → Option (List (Nat × AV))) :=
  List.rec (motive := fun _ => Box (Tr AV → Option (List (Nat × AV)))) ⟨fun _ => some []⟩
    (fun x _ r => ⟨fun E => bindO ((opnd B x.2).f E) fun v => bindO (r.f E) fun r => some ((x.1, v) :: r)⟩) l
def optB (x : Option Operand) : Box (Tr AV → Option (Option AV)) := match x with
  | none => ⟨fun _ => some none⟩
  | some x => ⟨fun E => bindO ((opnd B x).f E) fun v => some (some v)⟩
end

def isConst : Operand → Bool
  | .const _ => true
  | _ => false

/-! What a value is. -/
def onInt {β : Type} (v : AV) (k : IntKind → Int → Option β) : Option β := match v with | .int kd n => k kd n | _ => none
def onPtr {β : Type} (v : AV) (k : Nat → Nat → Option β) : Option β := match v with | .ptr (some (b, o)) => k b o | _ => none

/-! Operations that only reckon. -/
def eqGen (op : BinOp) (t : TypeId) (lit : Bool) (x y : AV) : Option AV :=
  match op with
  | .eql => match x, y with
    | .nilIface, .nilIface => bif lit then bindO (eqE P Op.maxDepth t .nilIface .nilIface) mkB else none
    | .agg a, .agg b => bif P.eqGuardType P.depth t then none else bindO (eqE P Op.maxDepth t (.agg a) (.agg b)) mkB
    | x, y => bindO (eqE P Op.maxDepth t x y) mkB
  | .neq => match x, y with
    | .nilIface, .nilIface => bif lit then bindO (eqE P Op.maxDepth t .nilIface .nilIface) fun r => mkB (!r) else none
    | .agg a, .agg b => bif P.eqGuardType P.depth t then none else bindO (eqE P Op.maxDepth t (.agg a) (.agg b)) fun r => mkB (!r)
    | x, y => bindO (eqE P Op.maxDepth t x y) fun r => mkB (!r)
  | _ => none
def onIntS (v : AV) (k : IntKind → Int → Option AV) (s : List UInt8 → Option AV) (d : AV → Option AV) : Option AV :=
  match v with
  | .int kd n => k kd n
  | .str x => s x
  | v => d v
def binGen (op : BinOp) (t : TypeId) (lit : Bool) (x y : AV) : Option AV :=
  onIntS x (fun k a => onInt y fun k' b => bif sameK k k' then intBin op k a b else none)
    (fun a => match y with | .str b => strBin op a b | _ => none) (fun x => eqGen P op t lit x y)
def binE (op : BinOp) (t : TypeId) (lit : Bool) : AV → AV → Option AV :=
  match op with
  | .shl => fun x y => onInt x fun k a => onInt y fun _ b => shiftI shlV k a b
  | .shr => fun x y => onInt x fun k a => onInt y fun _ b => shiftI shrV k a b
  | op => binGen P op t lit

def unE (op : UnOp) (x : AV) : Option AV :=
  match op with
  | .neg => onInt x fun k n => wrI k (subI 0 n)
  | .xor => onInt x fun k n => bif unsigned k then bits2 Nat.xor k (.ofNat (lim k - 1)) n else none
  | .not => match x with | .bool b => mkB (!b) | _ => none
  | .plus => none

def convE (src dst : TypeId) : Box (AV → Option AV) :=
  match P.underlying src, P.underlying dst with
  | some _, some (.int k) => ⟨fun x => onInt x fun _ n => wrI k n⟩
  | some _, some .string => ⟨fun x => match x with | .str s => some (.str s) | _ => none⟩
  | _, _ => ⟨fun _ => none⟩

def fieldAddrE (s : TypeId) (f : Nat) : Box (AV → Option AV) :=
  match P.underlying s with
  | some (.struct fs) => match fs[f]? with
    | some f => match szO P f.type with
      | some (_ + 1) => natK f.offset fun d => ⟨fun x => onPtr x fun b o => natK (o + d) fun o => some (.ptr (some (b, o)))⟩
      | _ => ⟨fun _ => none⟩
    | none => ⟨fun _ => none⟩
  | _ => ⟨fun _ => none⟩

def fieldE (t : TypeId) (x : AV) (f : Nat) : Option AV :=
  match P.underlying t with
  | some (.struct fs) => match fs[f]?, x with
    | some f, .agg cs => partE P f.type cs f.offset
    | _, _ => none
  | _ => none

/-- An index that lies in. -/
def inE (i : Int) (len : Nat) : Option Nat :=
  match i with
  | .ofNat i => bif Nat.blt i len then some i else none
  | .negSucc _ => none

def indexAddrE (t : TypeId) : Box (AV → AV → Option AV) :=
  match P.underlying t with
  | some (.array len e) => match szO P e with
    | some n => natK n fun n => ⟨fun x ix => onInt ix fun _ i => onPtr x fun b o => bindO (inE i len) fun i => natK (o + i * n) fun o => some (.ptr (some (b, o)))⟩
    | none => ⟨fun _ _ => none⟩
  | some (.slice e) => match szO P e with
    | some n => natK n fun n => ⟨fun x ix => onInt ix fun _ i => match x with
        | .slice (some (b, o)) len _ => bindO (inE i len) fun i => natK (o + i * n) fun o => some (.ptr (some (b, o)))
        | _ => none⟩
    | none => ⟨fun _ _ => none⟩
  | _ => ⟨fun _ _ => none⟩

def byteAt (s : List UInt8) : Int → Option AV
  | .ofNat i => bindO (nth s i) fun b => mkI .u8 (.ofNat b.toNat)
  | .negSucc _ => none
def indexE (t : TypeId) : Box (AV → AV → Option AV) :=
  match P.underlying t with
  | some (.array len e) => match szO P e with
    | some n => natK n fun n => ⟨fun x ix => onInt ix fun _ i => match x with
        | .agg cs => bindO (inE i len) fun i => partE P e cs (i * n)
        | _ => none⟩
    | none => ⟨fun _ _ => none⟩
  | some .string => ⟨fun x ix => onInt ix fun _ i => match x with
      | .str s => byteAt s i
      | _ => none⟩
  | _ => ⟨fun _ _ => none⟩

/-- A bound of a part: from 'none' the given one; at most 'y'. -/
def boundE (x : Option AV) (dflt y : Nat) : Option Nat :=
  match x with
  | none => some dflt
  | some (.int _ (.ofNat i)) => bif Nat.ble i y then some i else none
  | _ => none

def sliceStr (s : List UInt8) (lo hi : Option AV) : Option AV :=
  bindO (boundE hi (lenR s) (lenR s)) fun h => bindO (boundE lo 0 h) fun l => takeK (h - l) (dropR l s) fun r => some (.str r)
def capOr (cap : Cap) (len : Nat) : Nat := match cap with
  | .is c => c
  | .more _ => len
def sliceSl (n : Nat) (a : Option (Nat × Nat)) (len : Nat) (cap : Cap) (lo hi : Option AV) : Option AV :=
  bindO (boundE hi len (capOr cap len)) fun h => bindO (boundE lo 0 h) fun l => natK (h - l) fun d => match a, cap with
    | none, .is c => natK (c - l) fun c => some (.slice none d (.is c))
    | some (b, o), .is c => bif Nat.beq c l then some (.slice (some (b, o)) d (.is 0)) else natK (o + l * n) fun o => natK (c - l) fun c => some (.slice (some (b, o)) d (.is c))
    | some (b, o), .more s => bif Nat.beq s n then natK (o + l * n) fun o => some (.slice (some (b, o)) d (.more s)) else none
    | none, .more _ => none
def slice3At (n b o d m l : Nat) : Option AV :=
  bif Nat.beq m l then some (.slice (some (b, o)) d (.is 0)) else natK (o + l * n) fun o => natK (m - l) fun c => some (.slice (some (b, o)) d (.is c))
def slice3G (n : Nat) (a : Option (Nat × Nat)) (len : Nat) (cap : Cap) (m h l : Nat) : Option AV := natK (h - l) fun d => match a, cap with
  | none, _ => natK (m - l) fun c => some (.slice none d (.is c))
  | some (b, o), .is _ => slice3At n b o d m l
  | some (b, o), .more s => match len with
    | 0 => some (.slice (some (b, o)) 0 (.more s))
    | _ + 1 => slice3At n b o d m l
def sliceSl3 (n : Nat) (a : Option (Nat × Nat)) (len : Nat) (cap : Cap) (lo hi : Option AV) (mx : AV) : Option AV :=
  match hi, mx with
  | some hi, .int _ (.ofNat m) => bif Nat.ble m (capOr cap len) then
      bindO (boundE (some hi) 0 m) fun h => bindO (boundE lo 0 h) fun l => slice3G n a len cap m h l
    else none
  | _, _ => none
def sliceArr (sz n b o : Nat) (lo hi : Option AV) : Option AV :=
  bindO (boundE hi n n) fun h => bindO (boundE lo 0 h) fun l => bif Nat.beq n l then none else
    natK (h - l) fun d => natK (o + l * sz) fun o => natK (n - l) fun c => some (.slice (some (b, o)) d (.is c))
def sliceE (t : TypeId) : Box (AV → Option AV → Option AV → Option AV → Option AV) :=
  match P.underlying t with
  | some .string => ⟨fun x lo hi mx => match x, mx with
      | .str s, none => sliceStr s lo hi
      | _, _ => none⟩
  | some (.slice e) => match szO P e with
    | some n => natK n fun n => ⟨fun x lo hi mx => match x, mx with
        | .slice a len cap, none => sliceSl n a len cap lo hi
        | .slice a len cap, some m => sliceSl3 n a len cap lo hi m
        | _, _ => none⟩
    | none => ⟨fun _ _ _ _ => none⟩
  | some (.array n e) => match szO P e with
    | some sz => natK sz fun sz => ⟨fun x lo hi mx => match mx with
        | none => onPtr x fun b o => sliceArr sz n b o lo hi
        | some _ => none⟩
    | none => ⟨fun _ _ _ _ => none⟩
  | _ => ⟨fun _ _ _ _ => none⟩

/-- Parts laid into their places. -/
def fillE (place : Nat → Option (Nat × Nat)) (cells : List AV) : List (Nat × AV) → Option (List AV)
  | [] => some cells
  | (i, v) :: rest => match place i with
    | none => none
    | some (off, size) => bif Nat.beq (lenR v.cells) size && Nat.ble (off + lenR v.cells) (lenR cells) then
        fillE place (splice cells off v.cells) rest
      else none

def placeS (fs : Array Field) (i : Nat) : Option (Nat × Nat) := match fs[i]? with
  | some f => match szO P f.type with
    | some n => some (f.offset, n)
    | none => none
  | none => none

def fieldsSized (fs : Array Field) : Bool := fs.all fun f => (szO P f.type).isSome

def buildE (t : TypeId) : Box (List (Nat × AV) → Option AV) :=
  match zeroV P t with
  | some z => match P.underlying t with
    | some (.struct fs) => bif fieldsSized P fs then
        ⟨fun parts => bindO (fillE (placeS P fs) z.cells parts) fun cs => wholeK cs fun cs => some (.agg cs)⟩
      else ⟨fun _ => none⟩
    | some (.array _ e) => match szO P e with
      | some n => ⟨fun parts => bindO (fillE (fun i => some (i * n, n)) z.cells parts) fun cs => wholeK cs fun cs => some (.agg cs)⟩
      | none => ⟨fun _ => none⟩
    | _ => ⟨fun _ => none⟩
  | none => ⟨fun _ => none⟩

def failsE (asserted : TypeId) (ok : Bool) : Option AV := bif ok then (match zeroV P asserted with | some z => some (.tup [z, .bool false]) | none => none) else none
def assertE (asserted : TypeId) (ok : Bool) (x : AV) : Option AV :=
  match P.underlying asserted with
  | some (.interface _) => none
  | some _ => match x with
    | .nilIface => failsE P asserted ok
    | .iface t v => bif Nat.beq t asserted then (bif ok then some (.tup [v, .bool true]) else some v) else failsE P asserted ok
    | _ => none
  | none => none

def lenE (t : TypeId) : Box (AV → Option AV) :=
  match P.underlying t with
  | some .string => ⟨fun x => match x with | .str s => mkI .i64 (.ofNat (lenR s)) | _ => none⟩
  | some (.array n _) => ⟨fun _ => mkI .i64 (.ofNat n)⟩
  | some (.slice _) => ⟨fun x => match x with | .slice _ n _ => mkI .i64 (.ofNat n) | _ => none⟩
  | _ => ⟨fun _ => none⟩

def max2E (a b : AV) : Option AV := onInt a fun k x => onInt b fun _ y => some (.int k (bif ltI x y then y else x))
def min2E (a b : AV) : Option AV := onInt a fun k x => onInt b fun _ y => some (.int k (bif ltI y x then y else x))
def foldE (f : AV → AV → Option AV) : AV → List AV → Option AV
  | a, [] => some a
  | a, b :: l => bindO (f a b) fun c => foldE f c l
def fold1 (f : AV → AV → Option AV) : List AV → Option AV
  | [] => none
  | a :: l => foldE f a l
def one1 (l : List AV) : Option AV := match l with
  | [x] => some x
  | _ => none

def pickE (c : AV) (a b : Option AV) : Option AV := match c with
  | .bool true => a
  | .bool false => b
  | _ => none
def nilE (x : AV) : Option AV := match x with
  | .ptr (some a) => some (.ptr (some a))
  | .iface t v => some (.iface t v)
  | .func (.func f) a b => some (.func (.func f) a b)
  | _ => none
def ifaceE (t : TypeId) : Box (AV → Option AV) := match P.underlying t with
  | some (.interface _) => ⟨fun _ => none⟩
  | some _ => ⟨fun v => some (.iface t v)⟩
  | none => ⟨fun _ => none⟩
def extractE (i : Nat) (x : AV) : Option AV := match x with
  | .tup vs => nth vs i
  | _ => none

def Unary (B : Nat) (x : Operand) (g : AV → Option AV) (E : Tr AV) : Option AV := bindO ((opnd B x).f E) g
def Binary (B : Nat) (x y : Operand) (g : AV → AV → Option AV) (E : Tr AV) : Option AV := bindO ((opnd B x).f E) fun a => bindO ((opnd B y).f E) fun b => g a b

def builtinPure (B : Nat) (c : Call) : Builtin → Box (Tr AV → Option AV)
  | .len => match c.argTypes[0]? with
    | some t => ⟨fun E => bindO ((opnds B c.args.toList).f E) fun l => bindO (one1 l) (lenE P t).f⟩
    | none => ⟨fun _ => none⟩
  | .max => ⟨fun E => bindO ((opnds B c.args.toList).f E) (fold1 max2E)⟩
  | .min => ⟨fun E => bindO ((opnds B c.args.toList).f E) (fold1 min2E)⟩
  | _ => ⟨fun _ => none⟩
def callPure (B : Nat) (c : Call) : Callee → Box (Tr AV → Option AV)
  | .builtin b => builtinPure P B c b
  | _ => ⟨fun _ => none⟩

/-- An operation that neither reads nor writes memory. -/
def pureB (B : Nat) : Op → Box (Tr AV → Option AV)
  | .move x => opnd B x
  | .assign x => opnd B x
  | .pick c a b => ⟨fun E => bindO ((opnd B c).f E) fun v => pickE v ((opnd B a).f E) ((opnd B b).f E)⟩
  | .nilCheck x => ⟨Unary B x nilE⟩
  | .binOp op t x y _ => ⟨Binary B x y (binE P op t (isConst x || isConst y))⟩
  | .unOp op _ x => ⟨Unary B x (unE op)⟩
  | .convert src dst x => ⟨Unary B x (convE P src dst).f⟩
  | .makeInterface t x => ⟨Unary B x (ifaceE P t).f⟩
  | .makeFunc fn first captured => ⟨fun E => bindO ((opnds B first.toList).f E) fun a => bindO ((opnds B captured.toList).f E) fun b => some (.func fn a b)⟩
  | .fieldAddr s x f => ⟨Unary B x (fieldAddrE P s f).f⟩
  | .field t x f => ⟨Unary B x fun a => fieldE P t a f⟩
  | .indexAddr t x ix => ⟨Binary B x ix (indexAddrE P t).f⟩
  | .index t x ix => ⟨Binary B x ix (indexE P t).f⟩
  | .slice t x lo hi mx => ⟨fun E => bindO ((opnd B x).f E) fun a => bindO ((optB B lo).f E) fun l => bindO ((optB B hi).f E) fun h => bindO ((optB B mx).f E) fun m => (sliceE P t).f a l h m⟩
  | .build t parts => ⟨fun E => bindO ((opndP B parts.toList).f E) (buildE P t).f⟩
  | .typeAssert x _ asserted ok => ⟨Unary B x (assertE P asserted ok)⟩
  | .extract t i => ⟨Unary B t (extractE i)⟩
  | .call c => callPure P B c c.callee
  | _ => ⟨fun _ => none⟩

/-! Operations that read. -/
def objCells (H : AH) (b : Nat) : Option (List AV) := match H.m.get b with
  | some (.cells cs _ _) => some cs
  | _ => none
def cellsAt (H : AH) (b off n : Nat) (k : List AV → Option AV) : Option AV :=
  bindO (objCells H b) fun cs => takeK n (dropR off cs) fun l => bif Nat.beq (lenR l) n then k l else none
def loadE (t : TypeId) : Box (AH → AV → Option AV) :=
  match aggT P t with
  | some true => match szO P t with
    | some n => natK n fun n => ⟨fun H p => onPtr p fun b o => cellsAt H b o n fun l => some (.agg l)⟩
    | none => ⟨fun _ _ => none⟩
  | some false => ⟨fun H p => onPtr p fun b o => bindO (objCells H b) fun cs => nth cs o⟩
  | none => ⟨fun _ _ => none⟩
def bytesK {β : Type} : List AV → (List UInt8 → Option β) → Option β
  | [], k => k []
  | .int .u8 (.ofNat n) :: l, k => bytesK l fun r => k (UInt8.ofNat n :: r)
  | _ :: _, _ => none
def keySame : AV → AV → Option Bool
  | .int k a, .int k' b => bif sameK k k' then some (eqI a b) else none
  | .str a, .str b => some (eqS a b)
  | .bool a, .bool b => some (a == b)
  | _, _ => none
def keyKind (t : TypeId) (k : AV) : Bool := match P.underlying t, k with
  | some (.int _), .int _ _ => true
  | some .string, .str _ => true
  | some .bool, .bool _ => true
  | _, _ => false
def findE (k : AV) : List (AV × AV × Nat) → Nat → Option (Option (Nat × AV))
  | [], _ => some none
  | (key, v, _) :: es, i => bindO (keySame k key) fun b => bif b then some (some (i, v)) else findE k es (i + 1)
def entriesOf (H : AH) (x : AV) : Option (List (AV × AV × Nat)) := match x with
  | .map none => some []
  | .map (some r) => (match H.m.get r with | some (.map es _) => some es | _ => none)
  | _ => none
def foundE (et : TypeId) (ok : Bool) (r : Option (Nat × AV)) : Option AV := match r with
  | some (_, v) => bif ok then some (.tup [v, .bool true]) else some v
  | none => bindO (zeroV P et) fun z => bif ok then some (.tup [z, .bool false]) else some z
def lookupE (H : AH) (t : TypeId) (ok : Bool) (x k : AV) : Option AV :=
  match P.underlying t with
  | some (.map kt et) => bif keyKind P kt k then
      bindO (entriesOf H x) fun es => bindO (findE k es 0) (foundE P et ok)
    else none
  | _ => none
def textE (H : AH) (x : AV) : Option AV := match x with
  | .slice none _ _ => some (.str [])
  | .slice (some (b, o)) n _ => cellsAt H b o n fun l => bytesK l fun s => some (.str s)
  | _ => none
def convRead (src dst : TypeId) : Box (AH → AV → Option AV) := match P.underlying src, P.underlying dst with
  | some (.slice e), some .string => match P.underlying e with
    | some (.int .u8) => ⟨textE⟩
    | _ => ⟨fun _ _ => none⟩
  | _, _ => ⟨fun _ _ => none⟩
def lenMap (H : AH) (x : AV) : Option AV := bindO (entriesOf H x) fun es => mkI .i64 (.ofNat (lenR es))
def lenRead (t : TypeId) : Box (AH → AV → Option AV) := match P.underlying t with
  | some (.map _ _) => ⟨lenMap⟩
  | _ => ⟨fun _ _ => none⟩
def UnaryR (B : Nat) (x : Operand) (g : AH → AV → Option AV) (E : Tr AV) (H : AH) : Option AV := bindO ((opnd B x).f E) (g H)
def callRead (B : Nat) (c : Call) : Callee → Box (Tr AV → AH → Option AV)
  | .builtin .len => match c.argTypes[0]? with
    | some t => ⟨fun E H => bindO ((opnds B c.args.toList).f E) fun l => bindO (one1 l) ((lenRead P t).f H)⟩
    | none => ⟨fun _ _ => none⟩
  | _ => ⟨fun _ _ => none⟩
def entryE (H : AH) (it : AV) : Option AV := onPtr it fun r o => match o, H.m.get r with
  | 0, some (.miter (some m) _ seen stepped) => bindO seen.getLast? fun s => match H.m.get m with
    | some (.map es clock) => bif Nat.beq clock stepped then
        bindO (es.find? (fun e => Nat.beq e.2.2 s)) fun e => some (.tup [e.1, e.2.1])
      else none
    | _ => none
  | _, _ => none
def readB (B : Nat) : Op → Box (Tr AV → AH → Option AV)
  | .load t a => ⟨UnaryR B a (loadE P t).f⟩
  | .lookup t x k ok => ⟨fun E H => Binary B x k (lookupE P H t ok) E⟩
  | .convert src dst x => ⟨UnaryR B x (convRead P src dst).f⟩
  | .entry it => ⟨UnaryR B it entryE⟩
  | .call c => callRead P B c c.callee
  | _ => ⟨fun _ _ => none⟩

/-! Operations that make a block. -/
def zerosE (n : Nat) (z : List AV) : List AV := match n with
  | 0 => []
  | n + 1 => z ++ zerosE n z
abbrev Made := (Nat → AV) × AObj
def ptrOf (id : Nat) : AV := .ptr (some (id, 0))
def slOf (l : Nat) (c : Cap) (id : Nat) : AV := .slice (some (id, 0)) l c
def mapOf (id : Nat) : AV := .map (some id)
def allocZ (e : TypeId) : Box (Tr AV → Option Made) := match zeroV P e with
  | some z => ⟨fun _ => some (ptrOf, .cells z.cells e none)⟩
  | none => ⟨fun _ => none⟩
def buildSlE (t : TypeId) (len : Nat) : Box (List (Nat × AV) → Option Made) := match P.underlying t with
  | some (.slice e) => match szO P e, zeroV P e with
    | some n, some z => bif Nat.beq z.cells.length n && Nat.ble (len * n) 16777216 then
        wholeK (zerosE len z.cells) fun zs => ⟨fun ps => bindO (fillE (fun i => some (i * n, n)) zs ps) fun cs => wholeK cs fun cs => some (slOf len (.is len), .cells cs e none)⟩
      else ⟨fun _ => none⟩
    | _, _ => ⟨fun _ => none⟩
  | _ => ⟨fun _ => none⟩
def makeSlE (t : TypeId) : Box (AV → AV → Option Made) := match P.underlying t with
  | some (.slice e) => match szO P e, zeroV P e, P.info? e with
    | some n, some z, some i => bif Nat.beq z.cells.length n then
        natK i.bytes fun bytes => ⟨fun l c => match l, c with
          | .int _ (.ofNat l), .int _ (.ofNat c) => bif Nat.ble l c && Nat.ble (c * (bytes + 1)) 1073741824 then
              wholeK (zerosE c z.cells) fun cs => some (slOf l (.is c), .cells cs e none)
            else none
          | _, _ => none⟩
      else ⟨fun _ _ => none⟩
    | _, _, _ => ⟨fun _ _ => none⟩
  | _ => ⟨fun _ _ => none⟩
def byteV (b : UInt8) : AV := .int .u8 (.ofNat b.toNat)
def convAlloc (src dst : TypeId) : Box (AV → Option Made) := match P.underlying src, P.underlying dst with
  | some _, some (.slice e) => match P.underlying e with
    | some (.int .u8) => ⟨fun x => match x with
        | .str s => mapK byteV s fun cs => some (slOf (lenR s) (.more 1), .cells cs e (some 0))
        | _ => none⟩
    | _ => ⟨fun _ => none⟩
  | _, _ => ⟨fun _ => none⟩
/-- The value (of the new block's number) and the block. -/
def allocB (B : Nat) : Op → Box (Tr AV → Option Made)
  | .alloc e => allocZ P e
  | .box e x => ⟨fun E => bindO ((opnd B x).f E) fun v => some (ptrOf, .cells v.cells e none)⟩
  | .buildSlice t len parts => ⟨fun E => bindO ((opndP B parts.toList).f E) (buildSlE P t len).f⟩
  | .makeSlice t l c => ⟨fun E => bindO ((opnd B l).f E) fun l => bindO ((opnd B c).f E) fun c => (makeSlE P t).f l c⟩
  | .makeMap _ none => ⟨fun _ => some (mapOf, .map [] 0)⟩
  | .convert src dst x => ⟨fun E => bindO ((opnd B x).f E) (convAlloc P src dst).f⟩
  | _ => ⟨fun _ => none⟩

/-! Operations that write. -/
def AV.one : AV → Bool
  | .agg _ => false
  | .tup _ => false
  | _ => true
def spliceK {α β : Type} (v : List α) (n : Nat) : List α → (List α → β) → β :=
  Nat.rec (motive := fun _ => List α → (List α → β) → β) (fun l k => appK v (dropR (lenR v) l) k)
    (fun _ ih l => List.rec (motive := fun _ => (List α → β) → β) (fun k => wholeK v k) (fun a t _ k => ih t fun l' => k (a :: l')) l) n
def fzOk (fz : Option Nat) (off : Nat) : Bool := match fz with
  | none => true
  | some k => Nat.ble k off
abbrev Res := Option (AV × AH)
/-- Cells laid into a block that may be written. -/
def writeE (WB : Nat) (H : AH) (b off : Nat) (vs : List AV) (k : AH → Res) : Res :=
  match vs with
  | [] => k H
  | v :: vs => match H.m.get b with
    | some (.cells cs e fz) => bif Nat.ble WB b && fzOk fz off && Nat.ble (off + lenR (v :: vs)) (lenR cs) && (v :: vs).all AV.one then
        spliceK (v :: vs) off cs fun cs => Tr.setK (some (.cells cs e fz)) (b + 1) H.m b fun m => k ⟨m, H.next⟩
      else none
    | _ => none
def storeE (WB : Nat) (t : TypeId) : Box (AH → AV → AV → Res) := match szO P t with
  | some n => natK n fun n => ⟨fun H p v => match p with
      | .ptr (some (b, o)) => bif Nat.beq (lenR v.cells) n then writeE WB H b o v.cells fun H => some (.undef, H) else none
      | _ => none⟩
  | none => ⟨fun _ _ _ => none⟩
/-- The cells of what is appended or copied: so many elements, each of so many cells. -/
def srcE (H : AH) (x : AV) (n size : Nat) (k : List AV → Res) : Res :=
  match n with
  | 0 => k []
  | n' + 1 => let n := n' + 1; match x with
  | .slice (some (b, o)) _ _ => bindO (objCells H b) fun cs => takeK (n * size) (dropR o cs) fun l => bif Nat.beq (lenR l) (n * size) then k l else none
  | .str s => bif Nat.beq size 1 then takeK n s fun s => mapK byteV s k else none
  | _ => none
def lenOfE : AV → Option Nat
  | .slice _ n _ => some n
  | .str s => some (lenR s)
  | _ => none
def newE (H : AH) (o : AObj) (k : Nat → AH → Res) : Res :=
  Tr.setK (some o) (H.next + 1) H.m H.next fun m => natK (H.next + 1) fun n => k H.next ⟨m, n⟩
def appendIn (WB : Nat) (H : AH) (size need c n : Nat) (base : Option (Nat × Nat)) (sLen : Nat) (x : AV) : Res :=
  srcE H x n size fun new => match base with
    | none => some (.slice none need (.is c), H)
    | some (b, o) => writeE WB H b (o + sLen * size) new fun H => some (.slice (some (b, o)) need (.is c), H)
def appendNew (H : AH) (e : TypeId) (size need n : Nat) (s : AV) (sLen : Nat) (x : AV) : Res :=
  srcE H s sLen size fun old => srcE H x n size fun new => appK old new fun cs =>
    newE H (.cells cs e none) fun id H => some (.slice (some (id, 0)) need (.more size), H)
def appendOn (WB : Nat) (H : AH) (e : TypeId) (size need n b sLen : Nat) (x : AV) : Res :=
  match H.m.get b with
  | some (.cells cs e' fz) => bif Nat.ble WB b && Nat.blt 0 sLen && Nat.beq (lenR cs) (sLen * size) && Nat.beq e' e && fzOk fz (sLen * size) then
      srcE H x n size fun new => bif new.all AV.one then appK cs new fun cs' =>
        Tr.setK none (b + 1) H.m b fun m => newE ⟨m, H.next⟩ (.cells cs' e fz) fun id H => some (.slice (some (id, 0)) need (.more size), H)
        else none
    else none
  | _ => none
def appendG (WB : Nat) (e : TypeId) (size bytes : Nat) (H : AH) (s x : AV) : Res :=
  match s with
  | .slice base sLen sCap => bindO (lenOfE x) fun n =>
    bif Nat.ble ((2 * (sLen + n) + 1024) * (bytes + 1)) 140737488355328 then
      natK (sLen + n) fun need => match sCap with
        | .is c => bif Nat.ble need c then appendIn WB H size need c n base sLen x else appendNew H e size need n s sLen x
        | .more s' => match n, base with
          | 0, _ => some (s, H)
          | n + 1, some (b, 0) => bif Nat.beq s' size then appendOn WB H e size need (n + 1) b sLen x else none
          | _, _ => none
    else none
  | _ => none
def isIntT (d : TypeDesc) : Bool := match d with | .int _ => true | _ => false
def appendE (WB : Nat) (sT xT : TypeId) : Box (AH → AV → AV → Res) :=
  match P.underlying sT, P.underlying xT with
  | some (.slice e), some xd => bif isIntT xd then ⟨fun _ _ _ => none⟩ else
    match szO P e, P.info? e, zeroV P e with
    | some (size + 1), some i, some z => bif Nat.beq (lenR z.cells) (size + 1) then natK (size + 1) fun size => natK i.bytes fun bytes => ⟨appendG WB e size bytes⟩ else ⟨fun _ _ _ => none⟩
    | _, _, _ => ⟨fun _ _ _ => none⟩
  | _, _ => ⟨fun _ _ _ => none⟩
def copyG (WB size : Nat) (H : AH) (dst src : AV) : Res :=
  match dst with
  | .slice base dLen _ => bindO (lenOfE src) fun sLen => natK (Nat.min sLen dLen) fun n => srcE H src n size fun new =>
      match base with
      | none => some (.int .i64 (.ofNat n), H)
      | some (b, o) => writeE WB H b o new fun H => some (.int .i64 (.ofNat n), H)
  | _ => none
def copyE (WB : Nat) (dT : TypeId) : Box (AH → AV → AV → Res) :=
  match P.underlying dT with
  | some (.slice e) => match szO P e with
    | some size => natK size fun size => ⟨copyG WB size⟩
    | none => ⟨fun _ _ _ => none⟩
  | _ => ⟨fun _ _ _ => none⟩
def setObjE (WB : Nat) (H : AH) (r : Nat) (o : AObj) (k : AH → Res) : Res :=
  bif Nat.ble WB r then Tr.setK (some o) (r + 1) H.m r fun m => k ⟨m, H.next⟩ else none
def putAt (k v : AV) : List (AV × AV × Nat) → Nat → List (AV × AV × Nat)
  | [], _ => []
  | (_, _, s) :: es, 0 => (k, v, s) :: es
  | e :: es, i + 1 => e :: putAt k v es i
def mapPut (WB : Nat) (H : AH) (r : Nat) (es : List (AV × AV × Nat)) (clock : Nat) (k v : AV) (at? : Option (Nat × AV)) : Res :=
  match at? with
  | some (i, _) => wholeK (putAt k v es i) fun es => setObjE WB H r (.map es clock) fun H => some (.undef, H)
  | none => appK es [(k, v, clock)] fun es => natK (clock + 1) fun clock => setObjE WB H r (.map es clock) fun H => some (.undef, H)
def mapUpdateE (WB : Nat) (t : TypeId) (H : AH) (m k v : AV) : Res :=
  match P.underlying t, m with
  | some (.map kt _), .map (some r) => bif keyKind P kt k then
      match H.m.get r with
      | some (.map es clock) => bindO (findE k es 0) (mapPut WB H r es clock k v)
      | _ => none
    else none
  | _, _ => none
def mapDrop (WB : Nat) (H : AH) (r : Nat) (es : List (AV × AV × Nat)) (clock : Nat) (at? : Option (Nat × AV)) : Res :=
  match at? with
  | some (i, _) => wholeK (es.eraseIdx i) fun es => setObjE WB H r (.map es clock) fun H => some (.tup [], H)
  | none => setObjE WB H r (.map es clock) fun H => some (.tup [], H)
def deleteE (WB : Nat) (t : TypeId) (H : AH) (m k : AV) : Res :=
  match P.underlying t, m with
  | some (.map kt _), .map none => bif keyKind P kt k then some (.tup [], H) else none
  | some (.map kt _), .map (some r) => bif keyKind P kt k then
      match H.m.get r with
      | some (.map es clock) => bindO (findE k es 0) (mapDrop WB H r es clock)
      | _ => none
    else none
  | _, _ => none
def rangeE (t : TypeId) (H : AH) (x : AV) : Res :=
  match P.underlying t, x with
  | some .string, .str s => newE H (.siter s 0) fun id H => some (.ptr (some (id, 0)), H)
  | some (.map _ _), .map none => newE H (.miter none 0 [] 0) fun id H => some (.ptr (some (id, 0)), H)
  | some (.map _ _), .map (some m) => match H.m.get m with
    | some (.map _ clock) => newE H (.miter (some m) clock [] clock) fun id H => some (.ptr (some (id, 0)), H)
    | _ => none
  | _, _ => none
def decodeE (s : List UInt8) (pos : Nat) (k : Nat → Nat → Res) : Res :=
  match Utf8.decode ⟨⟨s⟩⟩ pos with
  | (c, w) => natK c fun c => natK w fun w => k c w
def nextStr (WB : Nat) (H : AH) (r : Nat) (s : List UInt8) (pos : Nat) : Res :=
  bif Nat.blt pos (lenR s) then
    decodeE s pos fun c w => natK (pos + w) fun p => setObjE WB H r (.siter s p) fun H => some (.tup [.bool true, .int .i64 (.ofNat pos), .int .i32 (.ofNat c)], H)
  else some (.tup [.bool false], H)
def nextMap (WB : Nat) (H : AH) (r m since : Nat) (seen : List Nat) (last : Nat) : Res :=
  match H.m.get m with
  | some (.map es clock) =>
    bif !seen.isEmpty && !es.isEmpty && es.all (fun e => Nat.ble last e.2.2) then none else
    match es.filter (fun e => !seen.contains e.2.2) with
    | [] => some (.tup [.bool false], H)
    | [(k, v, s)] => bif Nat.blt s since then
        appK seen [s] fun seen => setObjE WB H r (.miter (some m) since seen clock) fun H => some (.tup [.bool true, k, v], H)
      else none
    | _ => none
  | _ => none
def nextE (WB : Nat) (isString : Bool) (H : AH) (it : AV) : Res := onPtr it fun r o =>
  match o, H.m.get r, isString with
  | 0, some (.siter s pos), true => nextStr WB H r s pos
  | 0, some (.miter none _ _ _), false => some (.tup [.bool false], H)
  | 0, some (.miter (some m) since seen last), false => nextMap WB H r m since seen last
  | _, _, _ => none

section
variable (B WB : Nat) (call : FuncId → List AV → AH → Res)

def isPtrT (d : TypeDesc) : Bool := match d with | .pointer _ => true | _ => false
def methodE (t : TypeId) (name : String) : Option FuncId :=
  match P.info? t, P.underlying t with
  | some i, some d => bif isPtrT d then none else match i.methods.find? (fun m => m.name == name) with
    | some m => bif m.path.isEmpty then (match m.func with | some (f, false) => some f | _ => none) else none
    | none => none
  | _, _ => none

def two2 (l : List AV) (k : AV → AV → Res) : Res := match l with
  | [a, b] => k a b
  | _ => none
def onFunc (f : AV) (k : FuncId → List AV → List AV → Res) : Res := match f with
  | .func (.func f) first cap => k f first cap
  | _ => none
def callBuiltin (c : Call) : Builtin → Box (List AV → AH → Res)
  | .append => match c.argTypes[0]?, c.argTypes[1]? with
    | some sT, some xT => ⟨fun l H => two2 l ((appendE P WB sT xT).f H)⟩
    | _, _ => ⟨fun _ _ => none⟩
  | .copy => match c.argTypes[0]? with
    | some dT => ⟨fun l H => two2 l ((copyE P WB dT).f H)⟩
    | none => ⟨fun _ _ => none⟩
  | .delete => match c.argTypes[0]? with
    | some mT => ⟨fun l H => two2 l (deleteE P WB mT H)⟩
    | none => ⟨fun _ _ => none⟩
  | _ => ⟨fun _ _ => none⟩
def callChain (c : Call) : Callee → Box (Tr AV → AH → Res)
  | .builtin b => ⟨fun E H => bindO ((opnds B c.args.toList).f E) fun l => (callBuiltin P WB c b).f l H⟩
  | .value (.func f) => ⟨fun E H => bindO ((opnds B c.args.toList).f E) fun args => call f args H⟩
  | .value f => ⟨fun E H => bindO ((opnds B c.args.toList).f E) fun args => bindO ((opnd B f).f E) fun f => onFunc f fun f first cap => call f (first ++ args ++ cap) H⟩
  | .invoke r name => ⟨fun E H => bindO ((opnds B c.args.toList).f E) fun args => bindO ((opnd B r).f E) fun r => match r with
      | .iface t v => bindO (methodE P t name) fun f => call f (v :: args) H
      | _ => none⟩
def Unary2 (x : Operand) (g : AH → AV → Res) (E : Tr AV) (H : AH) : Res := bindO ((opnd B x).f E) (g H)

/-- An operation that writes, or calls. -/
def chainB : Op → Box (Tr AV → AH → Res)
  | .store t a x => ⟨fun E H => bindO ((opnd B a).f E) fun p => bindO ((opnd B x).f E) fun v => (storeE P WB t).f H p v⟩
  | .mapUpdate t m k x => ⟨fun E H => bindO ((opnd B m).f E) fun m => bindO ((opnd B k).f E) fun k => bindO ((opnd B x).f E) fun v => mapUpdateE P WB t H m k v⟩
  | .insert t m k x => ⟨fun E H => bindO ((opnd B m).f E) fun m => bindO ((opnd B k).f E) fun k => bindO ((opnd B x).f E) fun v => mapUpdateE P WB t H m k v⟩
  | .range t x => ⟨Unary2 B x (rangeE P t)⟩
  | .next it isString => ⟨Unary2 B it (nextE WB isString)⟩
  | .call c => callChain P B WB call c c.callee
  | _ => ⟨fun _ _ => none⟩

/-- What kind of operation is it? -/
inductive Cls where
  | pure | read | alloc | chain

def clsConv (src dst : TypeId) : Cls := match P.underlying src, P.underlying dst with
  | some (.slice _), some .string => .read
  | _, some (.slice _) => .alloc
  | _, _ => .pure
def clsLen (c : Call) : Cls := match c.argTypes[0]? with
  | some t => match P.underlying t with
    | some (.map _ _) => .read
    | _ => .pure
  | none => .pure
def clsCall (c : Call) : Callee → Cls
  | .builtin .len => clsLen P c
  | .builtin .max => .pure
  | .builtin .min => .pure
  | _ => .chain
def clsE : Op → Cls
  | .load .. => .read
  | .lookup .. => .read
  | .entry _ => .read
  | .alloc _ => .alloc
  | .box .. => .alloc
  | .buildSlice .. => .alloc
  | .makeSlice .. => .alloc
  | .makeMap .. => .alloc
  | .store .. => .chain
  | .mapUpdate .. => .chain
  | .insert .. => .chain
  | .range .. => .chain
  | .next .. => .chain
  | .convert src dst _ => clsConv P src dst
  | .call c => clsCall P c c.callee
  | _ => .pure

def opPure (g : Tr AV → Option AV) (E : Tr AV) (H : AH) : Res := bindO (g E) fun v => some (v, H)
def opRead (g : Tr AV → AH → Option AV) (E : Tr AV) (H : AH) : Res := bindO (g E H) fun v => some (v, H)
def opAlloc (g : Tr AV → Option Made) (E : Tr AV) (H : AH) : Res := bindO (g E) fun m => newE H m.2 fun id H => some (m.1 id, H)
/-- An operation where it stands. -/
def opB (o : Op) : Box (Tr AV → AH → Res) :=
  match clsE P o with
  | .pure => ⟨opPure (pureB P B o).f⟩
  | .read => ⟨opRead (readB P B o).f⟩
  | .alloc => ⟨opAlloc (allocB P B o).f⟩
  | .chain => chainB P B WB call o

/-- Is an operation wanted? -/
def wantV (want : Bool) (v : AV) : Option Bool := match v with
  | .bool b => some (b == want)
  | .tup [] => some false
  | _ => none
def wantE (ops : Array Oper) (o : Oper) : Box (Tr AV → Option Bool) :=
  match o.guard with
  | none => ⟨fun _ => some true⟩
  | some (j, want) => match (ops[j]?).bind (·.dst) with
    | some d => ⟨fun E => bindO (E.get d) (wantV want)⟩
    | none => ⟨fun _ => none⟩

abbrev RegRes := Option (Tr AV × AH)
def putB (nt : Nat) : Option Tmp → Box (AV → Tr AV → (Tr AV → RegRes) → RegRes)
  | none => ⟨fun _ E k => k E⟩
  | some d => bif Nat.blt d nt then ⟨fun v E k => Tr.setK (some v) (d + 1) E d k⟩ else ⟨fun _ _ _ => none⟩

def opStep (nt : Nat) (o : Oper) (rest : Box (Tr AV → AH → RegRes)) (E : Tr AV) (H : AH) : RegRes :=
  bindO ((opB P B WB call o.op).f E H) fun r => (putB nt o.dst).f r.1 E fun E' => rest.f E' r.2
def opSkip (nt : Nat) (o : Oper) (rest : Box (Tr AV → AH → RegRes)) (E : Tr AV) (H : AH) : RegRes :=
  (putB nt o.dst).f .undef E fun E' => rest.f E' H
def opsB (nt : Nat) (ops : Array Oper) (l : List Oper) : Box (Tr AV → AH → RegRes) :=
  List.rec (motive := fun _ => Box (Tr AV → AH → RegRes)) ⟨fun E H => some (E, H)⟩
    (fun o _ r => match o.guard with
      | none => ⟨opStep P B WB call nt o r⟩
      | some _ => ⟨fun E H => bindO ((wantE ops o).f E) fun b => bif b then opStep P B WB call nt o r E H else opSkip nt o r E H⟩) l
end
end
end
end Go.Ev
