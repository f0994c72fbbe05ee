/- The abstract evaluator, part 3: regions, code, calls. Definitions alone. -/
import Derived.Test.YteailohgaoglnaaGreatDoorShadeB
namespace Go.Shade

/-- What a call comes to; and whether it recovered the panic that it saw. -/
inductive COut where
  | ret (v : Value) (recd : Bool)
  | panic (v : Value)

abbrev CallSem := FuncId → List Value → Option Value → M COut

inductive Out where
  | norm
  | exit (id : Nat)
  | ret
  | panic (v : Value)

abbrev Ran := Out × Fr

def Fr.put : Fr → Option Tmp → Value → Option Fr
  | fr, none, _ => some fr
  | ⟨T, nt, defs, pan, recd⟩, some d, v => match Nat.blt d nt with
    | true => some ⟨T.set d v, nt, defs, pan, recd⟩
    | false => none

/-- Is this value the bool that the guard asks? -/
def isBool (want : Bool) : Option Value → Bool
  | some (.bool b) => b == want
  | _ => false
def dstOf (ops : List Oper) (j : Nat) : Option Tmp := match nth ops j with
  | some o => o.dst
  | none => none
def wantedF (ops : List Oper) (g : Option (Nat × Bool)) (T : Tr Value) : Bool := match g with
  | none => true
  | some (j, want) => match dstOf ops j with
    | some d => isBool want (T.get d)
    | none => false

def normed (o : Option Fr) : M Ran := match o with
  | some fr => M.ret (.norm, fr)
  | none => M.fail

def seen (fr : Fr) (dst : Option Tmp) : M Ran := match fr with
  | ⟨T, nt, defs, some v, _⟩ => normed (Fr.put ⟨T, nt, defs, none, true⟩ dst v)
  | fr => normed (fr.put dst .nilIface)
def laidBy (fr : Fr) (dst : Option Tmp) (f : FuncId) (args : List Value) : M Ran := match fr with
  | ⟨T, nt, defs, pan, recd⟩ => normed (Fr.put ⟨T, nt, (f, args) :: defs, pan, recd⟩ dst undefV)
def called (fr : Fr) (dst : Option Tmp) : COut → M Ran
  | .ret v _ => normed (fr.put dst v)
  | .panic v => M.ret (.panic v, fr)

section
variable (P : Program)

/-- What an operation came to. -/
def after (call : CallSem) (dst : Option Tmp) (fr : Fr) : Res → M Ran
  | .val v => normed (fr.put dst v)
  | .enter f args => M.bnd (call f args none) (called fr dst)
  | .panic v => M.ret (.panic v, fr)
  | .defer f args => laidBy fr dst f args
  | .recover => seen fr dst

/-- One operation of a region in order. -/
def evOne (call : CallSem) (ops : List Oper) (o : Oper) (fr : Fr) : M Ran := match wantedF ops o.guard fr.tmps with
  | false => normed (fr.put o.dst undefV)
  | true => M.bnd (evOp P (evOpd fr.tmps) o.op) (after call o.dst fr)

def evOps (call : CallSem) (ops : List Oper) : List Oper → Fr → M Ran
  | [], fr => M.ret (.norm, fr)
  | o :: rest, fr => M.bnd (evOne P call ops o fr) fun r => match r with
    | (.norm, fr) => evOps call ops rest fr
    | r => M.ret r

def valOf (call : CallSem) : Res → M Value
  | .val v => M.ret v
  | .enter f args => M.bnd (call f args none) fun r => match r with
    | .ret v _ => M.ret v
    | .panic _ => M.fail
  | _ => M.fail

/-- One operation of a region that draws its order: the value that it leaves. -/
def evVal (call : CallSem) (ops : List Oper) (o : Oper) (fr : Fr) : M Value := match wantedF ops o.guard fr.tmps with
  | false => M.ret undefV
  | true => M.bnd (evOp P (evOpd fr.tmps) o.op) (valOf call)

structure Rec where
  n : Nat
  n' : Nat
  log : List Acc

def outer (lim : Nat) : List Acc → List Acc → List Acc
  | [], log => log
  | a :: l, log => match Nat.blt a.b lim with
    | true => a :: outer lim l log
    | false => outer lim l log

/-- A piece by itself: what it touched of what was there before it. -/
def sub {α : Type} (x : M α) : M (α × Rec)
  | ⟨n, H, lim, log⟩ => match x ⟨n, H, n, []⟩ with
    | some (a, ⟨n', H', _, log'⟩) => some ((a, ⟨n, n', log'⟩), ⟨n', H', lim, outer lim log' log⟩)
    | none => none
def putO (dst : Option Tmp) (fr : Fr) (v : Value) : M Fr := M.opt (fr.put dst v)

def evDraw (call : CallSem) (ops : List Oper) : List Oper → Fr → List Rec → M (Fr × List Rec)
  | [], fr, recs => M.ret (fr, recs)
  | o :: rest, fr, recs => M.bnd (sub (evVal P call ops o fr)) fun r => M.bnd (putO o.dst fr r.1) fun fr => evDraw call ops rest fr (r.2 :: recs)

def getN : M Nat
  | ⟨n, H, lim, log⟩ => some (n, ⟨n, H, lim, log⟩)

/-- Do two accesses part company? -/
def Acc.clash (a b : Acc) : Bool :=
  Nat.beq a.b b.b && (a.wr || b.wr)

/-- The later one touches what the earlier one made, or both touch one thing and one of them writes it. -/
def Rec.clash (i j : Rec) : Bool :=
  j.log.any fun b => (Nat.ble i.n b.b && Nat.blt b.b i.n') || i.log.any fun a => a.clash b

def quietRec (n0 : Nat) (r : Rec) : Bool := r.log.all fun a => !a.wr && Nat.blt a.b n0

/-- Which operations stand ahead of each, as bits (a list, the last one first). -/
def edgeBits (acc : List Nat) (i : Nat) : List Edge → Nat
  | [] => 0
  | e :: l => match Region.binds .any e with
    | true => (2 ^ e.on) ||| ((nth acc (i - 1 - e.on)).getD 0) ||| edgeBits acc i l
    | false => edgeBits acc i l
def aheadBits : List Oper → Nat → List Nat → List Nat
  | [], _, acc => acc
  | o :: l, i, acc => aheadBits l (i + 1) (edgeBits acc i o.after.toList :: acc)

/-- recs and bits: the last one first; i: the number of the head. -/
def clashOne (bj : Nat) (rj : Rec) : List Rec → Nat → Bool
  | [], _ => true
  | ri :: l, i => (bj.testBit i || !ri.clash rj) && clashOne bj rj l (i - 1)
def noClash : List Rec → List Nat → Nat → Bool
  | r :: recs, b :: bits, i => clashOne b r recs (i - 1) && noClash recs bits (i - 1)
  | _, _, _ => true

def drawn (ops : List Oper) (n0 : Nat) (recs : List Rec) : Bool := match recs.all (quietRec n0) with
  | true => true
  | false => noClash recs (aheadBits ops 0 []) (ops.length - 1)

def evDrawn (ops : List Oper) (n0 : Nat) (r : Fr × List Rec) : M Ran := match drawn ops n0 r.2 with
  | true => M.ret (.norm, r.1)
  | false => M.fail
def evRegion (call : CallSem) (ops : List Oper) (draw : Bool) (fr : Fr) : M Ran := match draw with
  | false => evOps P call ops ops fr
  | true => M.bnd getN fun n0 => M.bnd (evDraw P call ops ops fr []) (evDrawn ops n0)

def evLoop (body : Fr → M Ran) : Nat → Fr → M Ran
  | 0, _ => M.fail
  | k + 1, fr => M.bnd (body fr) fun r => match r with
    | (.norm, fr) => evLoop body k fr
    | r => M.ret r

def unblock (id : Nat) : Ran → M Ran
  | (.exit id', fr) => match Nat.beq id' id with
    | true => M.ret (.norm, fr)
    | false => M.ret (.exit id', fr)
  | r => M.ret r

def evC (call : CallSem) (lf : Nat) : Code → Fr → M Ran
  | .skip, fr => M.ret (.norm, fr)
  | .label _, fr => M.ret (.norm, fr)
  | .region _ ops draw, fr => evRegion P call ops.toList draw fr
  | .seq a b, fr => M.bnd (evC call lf a fr) fun r => match r with
    | (.norm, fr) => evC call lf b fr
    | r => M.ret r
  | .cond c a b, fr => match evOpd fr.tmps c with
    | .bool true => evC call lf a fr
    | .bool false => evC call lf b fr
    | _ => M.fail
  | .block id body, fr => M.bnd (evC call lf body fr) (unblock id)
  | .loop body, fr => evLoop (evC call lf body) lf fr
  | .scope body, fr => evC call lf body fr
  | .exit id, fr => M.ret (.exit id, fr)
  | .ret, fr => M.ret (.ret, fr)
  | _, _ => M.fail

def evResults (T : Tr Value) : List ResultVar → M (List Value)
  | [] => M.ret []
  | .tmp t :: l => M.bnd (evResults T l) fun r => M.ret (tmpOf T t :: r)
  | .cell a t :: l => match addrOf (tmpOf T a) with
    | some (b, i) => M.bnd (loadV P t b i) fun v => M.bnd (evResults T l) fun r => M.ret (v :: r)
    | none => M.fail

def tupled : List Value → Value
  | [v] => v
  | l => .tuple l.toArray

/-- The deferred calls, and what comes of the whole. -/
def evUnwind (call : CallSem) (res : List ResultVar) (T : Tr Value) (recd : Bool) : List (FuncId × List Value) → Option Value → M COut
  | [], none => M.bnd (evResults P T res) fun vs => M.ret (.ret (tupled vs) recd)
  | [], some v => M.ret (.panic v)
  | (f, args) :: ds, pan => M.bnd (call f args pan) fun r => match r with
    | .ret _ true => evUnwind call res T recd ds none
    | .ret _ false => evUnwind call res T recd ds pan
    | .panic _ => M.fail

def leave (call : CallSem) (res : List ResultVar) : Ran → M COut
  | (.norm, ⟨T, _, defs, _, recd⟩) => evUnwind P call res T recd defs none
  | (.ret, ⟨T, _, defs, _, recd⟩) => evUnwind P call res T recd defs none
  | (.panic v, ⟨T, _, defs, _, recd⟩) => evUnwind P call res T recd defs (some v)
  | _ => M.fail

def tmpsOf : List Value → Nat → Tr Value → Tr Value
  | [], _, t => t
  | v :: l, i, t => tmpsOf l (i + 1) (t.set i v)

def enterF (call : CallSem) (lf : Nat) (fn : Func) (args : List Value) (pan : Option Value) : M COut := match fn.body with
  | some c => M.bnd (evC P call lf c ⟨tmpsOf args 0 .nil, fn.ntmps, [], pan, false⟩) (leave P call fn.results.toList)
  | none => M.fail

def evF (lf : Nat) : Nat → CallSem
  | 0 => fun _ _ _ => M.fail
  | d + 1 => fun f args pan => match P.funcs[f]? with
    | some fn => enterF P (evF lf d) lf fn args pan
    | none => M.fail
end
end Go.Shade
