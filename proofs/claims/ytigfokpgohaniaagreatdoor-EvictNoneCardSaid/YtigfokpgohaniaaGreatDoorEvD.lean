/- The plain evaluator: regions whose order is drawn, code, calls. -/
import Derived.Test.YtigfokpgohaniaaGreatDoorEvC
namespace Go.Ev
open Go
noncomputable section

mutual
def AV.same : AV → AV → Bool
  | .bool a, .bool b => a == b
  | .int k a, .int l b => sameK k l && eqI a b
  | .str a, .str b => eqS a b
  | .ptr a, .ptr b => decide (a = b)
  | .slice a n c, .slice b m d => decide (a = b) && Nat.beq n m && decide (c = d)
  | .map a, .map b => decide (a = b)
  | .func (.func f) a b, .func (.func g) c d => Nat.beq f g && AV.sames a c && AV.sames b d
  | .nilFunc, .nilFunc => true
  | .iface t a, .iface u b => Nat.beq t u && AV.same a b
  | .nilIface, .nilIface => true
  | .agg a, .agg b => AV.sames a b
  | .tup a, .tup b => AV.sames a b
  | _, _ => false
def AV.sames : List AV → List AV → Bool
  | [], [] => true
  | a :: x, b :: y => AV.same a b && AV.sames x y
  | _, _ => false
end

section
variable (P : Program) (B WB nt : Nat) (call : FuncId → List AV → AH → Res)

/-- What must have gone ahead of each operation, as the digits of a number. -/
def maskOf (ms : List Nat) (es : List Edge) : Nat := match es with
  | [] => 0
  | e :: es => bif Region.binds .any e then Nat.lor (Nat.lor (Nat.shiftLeft 1 e.on) (ms.getD e.on 0)) (maskOf ms es) else maskOf ms es
def masks : List Oper → List Nat → List Nat
  | [], ms => ms
  | o :: os, ms => natK (maskOf ms o.after.toList) fun m => masks os (ms ++ [m])

def hasBit (m i : Nat) : Bool := Nat.beq (Nat.land (Nat.shiftRight m i) 1) 1

def namesOf (ops : Array Oper) (o : Oper) : List Tmp := o.dst.toList ++ o.looksAt ops
/-- Of two operations that share a temporary that one of them writes, the one must go ahead of the other. -/
def apartOk (ops : Array Oper) (i : Nat) (x : Oper) (m : Nat) (y : Oper) : Bool :=
  hasBit m i || (match x.dst with | some d => !(namesOf ops y).contains d | none => true) && (match y.dst with | some d => !(namesOf ops x).contains d | none => true)
def tempsOk1 (ops : Array Oper) (m : Nat) (y : Oper) : Nat → List Oper → Bool
  | _, [] => true
  | i, x :: l => apartOk ops i x m y && tempsOk1 ops m y (i + 1) l
def tempsOk (ops : Array Oper) (ms : List Nat) : List Oper → List Oper → Nat → Bool
  | _, [], _ => true
  | done, y :: l, j => tempsOk1 ops (ms.getD j 0) y 0 done && y.after.all (fun e => !Region.binds .any e || Nat.blt e.on j) &&
      (match y.guard with | none => true | some (g, _) => hasBit (ms.getD j 0) g) && tempsOk ops ms (done ++ [y]) l (j + 1)

abbrev Pend := List (Nat × Nat × AObj)
abbrev Reads := List (Nat × Op × Tr AV × AV)
abbrev Hist := List (Nat × AH)

def withPend (m : Nat) : Pend → AH → AH
  | [], H => H
  | (i, id, o) :: l, H => bif hasBit m i then Tr.setK (some o) (id + 1) H.m id fun t => withPend m l ⟨t, H.next⟩ else withPend m l H
def restPend (m : Nat) : Pend → Pend
  | [] => []
  | (i, id, o) :: l => bif hasBit m i then restPend m l else (i, id, o) :: restPend m l
def allPend : Pend → AH → AH
  | [], H => H
  | (_, id, o) :: l, H => Tr.setK (some o) (id + 1) H.m id fun t => allPend l ⟨t, H.next⟩

def sameO (v : AV) : Option AV → Bool
  | some u => AV.same v u
  | none => false
def readsSame (m : Nat) (pend : Pend) (ms : List Nat) (H : AH) : Reads → Bool
  | [] => true
  | (i, o, E, v) :: l => (hasBit m i || sameO v ((readB P B o).f E (withPend (ms.getD i 0) pend H))) && readsSame m pend ms H l
def histSame (m : Nat) (pend : Pend) (E : Tr AV) (o : Op) (v : AV) : Hist → Bool
  | [] => true
  | (k, H) :: l => (hasBit m k || sameO v ((readB P B o).f E (withPend m pend H))) && histSame m pend E o v l

structure RS where
  E : Tr AV
  H : AH
  /-- blocks made that no chain operation has met: who made it, its number, the block -/
  pend : Pend
  /-- what was read: by whom, the values then, and what was read -/
  reads : Reads
  /-- the memory ahead of each chain operation -/
  hist : Hist

def lastIn (m : Nat) (h : Hist) : Bool := match h with
  | [] => true
  | (k, _) :: _ => hasBit m k

def regPure (o : Oper) (rest : Box (RS → RegRes)) (s : RS) : RegRes :=
  bindO ((pureB P B o.op).f s.E) fun v => (putB nt o.dst).f v s.E fun E => rest.f { s with E := E }
def regRead (ms : List Nat) (j : Nat) (o : Oper) (rest : Box (RS → RegRes)) (s : RS) : RegRes :=
  bindO ((readB P B o.op).f s.E (withPend (ms.getD j 0) s.pend s.H)) fun v =>
    bif histSame P B (ms.getD j 0) s.pend s.E o.op v s.hist then
      (putB nt o.dst).f v s.E fun E => rest.f { s with E := E, reads := (j, o.op, s.E, v) :: s.reads }
    else none
def regAlloc (j : Nat) (o : Oper) (rest : Box (RS → RegRes)) (s : RS) : RegRes :=
  bindO ((allocB P B o.op).f s.E) fun m => natK (s.H.next + 1) fun n => (putB nt o.dst).f (m.1 s.H.next) s.E fun E =>
    rest.f { s with E := E, H := ⟨s.H.m, n⟩, pend := (j, s.H.next, m.2) :: s.pend }
def regChain (ms : List Nat) (j : Nat) (o : Oper) (rest : Box (RS → RegRes)) (s : RS) : RegRes :=
  bif lastIn (ms.getD j 0) s.hist then
    bindO ((chainB P B WB call o.op).f s.E (withPend (ms.getD j 0) s.pend s.H)) fun r =>
      bif readsSame P B (ms.getD j 0) (restPend (ms.getD j 0) s.pend) ms r.2 s.reads then
        (putB nt o.dst).f r.1 s.E fun E =>
          rest.f { s with E := E, H := r.2, pend := restPend (ms.getD j 0) s.pend, hist := (j, s.H) :: s.hist }
      else none
  else none
def regStep (ms : List Nat) (j : Nat) (o : Oper) (rest : Box (RS → RegRes)) : Box (RS → RegRes) :=
  match clsE P o.op with
  | .pure => ⟨regPure P B nt o rest⟩
  | .read => ⟨regRead P B nt ms j o rest⟩
  | .alloc => ⟨regAlloc P B nt j o rest⟩
  | .chain => ⟨regChain P B WB nt call ms j o rest⟩
def regSkip (o : Oper) (rest : Box (RS → RegRes)) (s : RS) : RegRes :=
  (putB nt o.dst).f .undef s.E fun E => rest.f { s with E := E }
def regB (ops : Array Oper) (ms : List Nat) (l : List Oper) : Nat → Box (RS → RegRes) :=
  List.rec (motive := fun _ => Nat → Box (RS → RegRes)) (fun _ => ⟨fun s => some (s.E, allPend s.pend s.H)⟩)
    (fun o _ r j => match o.guard with
      | none => regStep P B WB nt call ms j o (r (j + 1))
      | some _ => ⟨fun s => bindO ((wantE ops o).f s.E) fun b =>
          bif b then (regStep P B WB nt call ms j o (r (j + 1))).f s else regSkip nt o (r (j + 1)) s⟩) l

def drawnB (ops : Array Oper) : Box (Tr AV → AH → RegRes) :=
  bif P.follows .mixedOrders && tempsOk ops (masks ops.toList []) [] ops.toList 0 && Region.noSelect ops then
    ⟨fun E H => (regB P B WB nt call ops (masks ops.toList []) ops.toList 0).f ⟨E, H, [], [], []⟩⟩
  else ⟨fun _ _ => none⟩

inductive Ex where
  | normal
  | exit (id : Nat)
  | ret

abbrev CodeRes := Option (Ex × Tr AV × AH)
abbrev CodeF := Tr AV → AH → CodeRes

def normalOf (r : RegRes) : CodeRes := bindO r fun r => some (.normal, r.1, r.2)
def thenE (r : CodeRes) (k : CodeF) : CodeRes := bindO r fun r => match r.1 with
  | .normal => k r.2.1 r.2.2
  | e => some (e, r.2)
def blockE (id : Nat) (r : CodeRes) : CodeRes := bindO r fun r => match r.1 with
  | .exit id' => bif Nat.beq id' id then some (.normal, r.2) else some (.exit id', r.2)
  | e => some (e, r.2)
def condE (v : AV) (a b : CodeRes) : CodeRes := match v with
  | .bool true => a
  | .bool false => b
  | _ => none
def loopE (body : Box CodeF) (L : Nat) : CodeF :=
  Nat.rec (motive := fun _ => CodeF) (fun _ _ => none) (fun _ ih E H => thenE (body.f E H) ih) L

def regionB (ops : Array Oper) (draw : Bool) : Box (Tr AV → AH → RegRes) :=
  bif draw then drawnB P B WB nt call ops else opsB P B WB call nt ops ops.toList

/-- Code: 'L' rounds at most to each loop. -/
def codeB (L : Nat) (c : Code) : Box CodeF :=
  Code.rec (motive := fun _ => Box CodeF)
    (skip := ⟨fun E H => some (.normal, E, H)⟩)
    (region := fun _ ops draw => ⟨fun E H => normalOf ((regionB P B WB nt call ops draw).f E H)⟩)
    (seq := fun _ _ a b => ⟨fun E H => thenE (a.f E H) b.f⟩)
    (cond := fun c _ _ a b => ⟨fun E H => bindO ((opnd B c).f E) fun v => condE v (a.f E H) (b.f E H)⟩)
    (block := fun id _ b => ⟨fun E H => blockE id (b.f E H)⟩)
    (loop := fun _ b => ⟨loopE b L⟩)
    (rangeFunc := fun _ _ _ _ _ _ => ⟨fun _ _ => none⟩)
    (exit := fun id => ⟨fun E H => some (.exit id, E, H)⟩)
    (scope := fun _ _ => ⟨fun _ _ => none⟩)
    (label := fun _ => ⟨fun E H => some (.normal, E, H)⟩)
    (goto := fun _ => ⟨fun _ _ => none⟩)
    (ret := ⟨fun E H => some (.ret, E, H)⟩)
    (refuse := fun _ => ⟨fun _ _ => none⟩) c
end

def envOf (l : List AV) : Nat → Tr AV → (Tr AV → Res) → Res :=
  List.rec (motive := fun _ => Nat → Tr AV → (Tr AV → Res) → Res) (fun _ E k => k E)
    (fun v _ ih i E k => Tr.setK (some v) (i + 1) E i fun E => natK (i + 1) fun i => ih i E k) l

def resV (P : Program) (E : Tr AV) (H : AH) : ResultVar → Option AV
  | .tmp t => E.get t
  | .cell a t => bindO (E.get a) fun p => (loadE P t).f H p
def resL (P : Program) (E : Tr AV) (H : AH) : List ResultVar → Option (List AV)
  | [] => some []
  | r :: l => bindO (resV P E H r) fun v => bindO (resL P E H l) fun vs => some (v :: vs)
def shutE (vs : List AV) : AV := match vs with
  | [v] => v
  | vs => .tup vs
def resE (P : Program) (rs : List ResultVar) (r : CodeRes) : Res := bindO r fun r => match r.1 with
  | .exit _ => none
  | _ => bindO (resL P r.2.1 r.2.2 rs) fun vs => some (shutE vs, r.2.2)

def bodyB (P : Program) (B WB L : Nat) (call : FuncId → List AV → AH → Res) (f : FuncId) : Box (List AV → AH → Res) :=
  match P.funcs[f]? with
  | some fn => match fn.body with
    | some c => bif !(fn.name == "runtime.NumGoroutine") then
        natK fn.ntmps fun nt => ⟨fun args H => bif Nat.ble args.length nt then
          envOf args 0 .nil fun E => resE P fn.results.toList ((codeB P B WB nt call L c).f E H)
        else none⟩
      else ⟨fun _ _ => none⟩
    | none => ⟨fun _ _ => none⟩
  | none => ⟨fun _ _ => none⟩

/-- A call: so deep, with so many rounds. 'prim': functions that are not walked into. -/
def callE (P : Program) (B WB L : Nat) (prim : FuncId → Option (List AV → AH → Res)) (n : Nat) : FuncId → List AV → AH → Res :=
  Nat.rec (motive := fun _ => FuncId → List AV → AH → Res) (fun _ _ _ => none)
    (fun _ ih f args H => match prim f with
      | some g => g args H
      | none => (bodyB P B WB L ih f).f args H) n

end
end Go.Ev
