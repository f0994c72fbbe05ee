/- The abstract evaluator, part 2: operations. Definitions alone. -/
import Derived.Test.YteailohgaoglnaaGreatDoorShadeA
import Derived.Orders
namespace Go.Shade

structure Fr where
  tmps : Tr Value
  nt : Nat
  defs : List (FuncId × List Value)
  pan : Option Value
  recd : Bool

def undefV : Value := .tuple #[]
def tmpOf (T : Tr Value) (t : Nat) : Value := match T.get t with | some v => v | none => undefV
def evOpd (T : Tr Value) : Operand → Value
  | .tmp t => tmpOf T t
  | .const v => v
  | .global g => ptr g 0
  | .func f => .func (.func f) #[] #[]

/-- An address that is known only not to be nil. -/
def voidA : Addr := ⟨0, 0, some 0⟩

/-- What is known of a slice's capacity: a bound from below, and whether it is that; and where it isn't, the size of an element. -/
def capOf (a : Option Addr) (code : Nat) : Nat × Bool := match a with
  | none => (0, true)
  | some _ => match Nat.beq (code % 2) 1 with
    | true => (code / 2, true)
    | false => (code / 2 / 65536, false)
def eszOf (code : Nat) : Nat := code / 2 % 65536
def codeI (c k : Nat) : Nat := 2 * (c * 65536 + k)

def nat? : Value → Option Nat
  | .int _ (.ofNat n) => some n
  | _ => none
def natO : Option Value → Option (Option Nat)
  | none => some none
  | some v => match nat? v with
    | some n => some (some n)
    | none => none

def addA : Addr → Nat → Addr
  | ⟨b, i, none⟩, n => force (i + n) fun j => ⟨b, j, none⟩
  | a, _ => a
def addO (a : Option Addr) (n : Nat) : Option Addr := match a with
  | none => none
  | some a => some (addA a n)

def mkSlice (a : Option Addr) (len code : Nat) : Value := force len fun len => force code fun code => .slice a len code

/-- x[l:h:m], x[l:h] of a slice of elements of k cells. -/
def sliceMax (k : Nat) (a : Option Addr) (c l h m : Nat) : Option Value :=
  match Nat.ble m c && Nat.ble h m && Nat.ble l h with
  | true => some (mkSlice (match Nat.beq m l with | true => a | false => addO a (l * k)) (h - l) (2 * (m - l) + 1))
  | false => none
def sliceTo (k : Nat) (a : Option Addr) (c : Nat) (ex : Bool) (code l h : Nat) : Option Value :=
  match Nat.ble h c && Nat.ble l h with
  | true => match ex with
    | true => some (mkSlice (match Nat.beq c l with | true => a | false => addO a (l * k)) (h - l) (2 * (c - l) + 1))
    | false => match Nat.blt l c with
      | true => match Nat.beq (eszOf code) k with
        | true => some (mkSlice (addO a (l * k)) (h - l) (codeI (c - l) k))
        | false => none
      | false => some (.slice (some voidA) 0 0)
  | false => none
def sliceV (k : Nat) (a : Option Addr) (len code : Nat) (lo hi mx : Option Nat) : Option Value :=
  match capOf a code with
  | (c, ex) => match mx, hi with
    | some m, some h => sliceMax k a c (lo.getD 0) h m
    | none, hi => sliceTo k a c ex code (lo.getD 0) (hi.getD len)
    | _, _ => none

def intOp (op : BinOp) (k : IntKind) (a b : Int) : Option Value :=
  match op with
  | .add => mkInt k (k.wrap (a + b))
  | .sub => mkInt k (k.wrap (a - b))
  | .mul => mkInt k (k.wrap (a * b))
  | .quo => match decide (b = 0) with | true => none | false => mkInt k (k.wrap (a.tdiv b))
  | .rem => match decide (b = 0) with | true => none | false => mkInt k (a.tmod b)
  | .and => mkInt k (k.wrap (BitVec.ofInt k.bits a &&& BitVec.ofInt k.bits b).toNat)
  | .or => mkInt k (k.wrap (BitVec.ofInt k.bits a ||| BitVec.ofInt k.bits b).toNat)
  | .xor => mkInt k (k.wrap (BitVec.ofInt k.bits a ^^^ BitVec.ofInt k.bits b).toNat)
  | .andNot => mkInt k (k.wrap (BitVec.ofInt k.bits a &&& ~~~BitVec.ofInt k.bits b).toNat)
  | .eql => some (.bool (a == b))
  | .neq => some (.bool (a != b))
  | .lss => some (.bool (a < b))
  | .leq => some (.bool (a ≤ b))
  | .gtr => some (.bool (a > b))
  | .geq => some (.bool (a ≥ b))
  | _ => none

def shiftOp (left : Bool) (k : IntKind) (a b : Int) : Option Value := match decide (b < 0) with
  | true => none
  | false => match left with
    | true => mkInt k (k.wrap (a * 2 ^ (min b.toNat k.bits)))
    | false => mkInt k (a.fdiv (2 ^ (min b.toNat k.bits)))

def strOp (op : BinOp) (a b : ByteArray) : Option Value := match op with
  | .add => match decide (((a.size + b.size : Nat) : Int) > IntKind.i64.max) with
    | true => none
    | false => some (.string (a ++ b))
  | .eql => some (.bool (a.toList == b.toList))
  | .neq => some (.bool !(a.toList == b.toList))
  | _ => none

def unV (op : UnOp) (x : Value) : Option Value :=
  match op, x with
  | .neg, .int k n => mkInt k (k.wrap (0 - n))
  | .xor, .int k n => mkInt k (k.wrap (BitVec.ofInt k.bits (if k.signed then -1 else k.max) ^^^ BitVec.ofInt k.bits n).toNat)
  | .not, .bool b => some (.bool !b)
  | _, _ => none

def bytesOfCells : List Value → Option (List UInt8)
  | [] => some []
  | .int .u8 n :: l => match bytesOfCells l with | some bs => some (UInt8.ofNat n.toNat :: bs) | none => none
  | _ => none
def runesOfCells : List Value → Option ByteArray
  | [] => some ByteArray.empty
  | .int .i32 n :: l => match runesOfCells l with | some bs => some (Utf8.encode n ++ bs) | none => none
  | _ => none
def cellsOfBytes (l : List UInt8) : List Value := l.map fun b => .int .u8 b.toNat

def rdSlice (k : Nat) (x : Value) (n : Nat) : M (List Value) := match x with
  | .slice (some ⟨b, i, none⟩) _ _ => rdRow b i (n * k)
  | .slice _ _ _ => match Nat.beq n 0 with | true => M.ret [] | false => M.fail
  | .string s => match takeO n s.data.toList with
    | some l => M.ret (cellsOfBytes l)
    | none => M.fail
  | _ => M.fail

def lenV : Value → Option Nat
  | .slice _ n _ => some n
  | .string s => some s.size
  | _ => none

/-- A row that an append or a conversion made: a capacity of its own. -/
def grown (cs : List Value) (len k : Nat) (old : List Nat) : M Value := match Nat.blt k 65536 with
  | true => M.bnd (newRow cs old k) fun b => M.ret (mkSlice (some ⟨b, 0, none⟩) len (codeI len k))
  | false => M.fail

/-- A row of one's own is marked as a string's. -/
def ownRow (b : Nat) : M Unit := touch b fun x => match x with
  | .cells _ true _ _ => some ((), none)
  | _ => none

section
variable (P : Program)

def guardV (t : TypeId) (cst : Bool) : Value → Value → Bool
  | .nilIface, .nilIface => cst
  | .agg _, .agg _ => !P.eqGuardType P.depth t
  | _, _ => true

def binV (op : BinOp) (t : TypeId) (cst : Bool) (x y : Value) : Option Value :=
  match x, y with
  | .int k a, .int k' b => match op with
    | .shl => shiftOp true k a b
    | .shr => shiftOp false k a b
    | op => match decide (k = k') with
      | true => intOp op k a b
      | false => none
  | .string a, .string b => strOp op a b
  | .float _ _, _ => none
  | .complex _ _ _, _ => none
  | x, y => match op with
    | .eql => match guardV P t cst x y with
      | true => match eqV P 100 t x y with
        | some b => some (.bool b)
        | none => none
      | false => none
    | .neq => match guardV P t cst x y with
      | true => match eqV P 100 t x y with
        | some b => some (.bool !b)
        | none => none
      | false => none
    | _ => none

def convInt (dst : TypeId) (n : Int) : Option Value := match P.underlying dst with
  | some (.int k) => mkInt k (k.wrap n)
  | some .string => some (.string (Utf8.encode n))
  | _ => none
def convStr (dst : TypeId) (s : ByteArray) : M Value := match P.underlying dst with
  | some .string => M.ret (.string s)
  | some (.slice e) => match P.underlying e with
    | some (.int .u8) => grown (cellsOfBytes s.data.toList) s.size 1 []
    | some (.int .i32) => match (Conv.runesFrom s s.size 0 #[]).toList with
      | l => grown l l.length 1 []
    | _ => M.fail
  | _ => M.fail
def convCells (e : TypeId) (l : List Value) : Option Value := match P.underlying e with
  | some (.int .u8) => match bytesOfCells l with
    | some bs => some (.string ⟨bs.toArray⟩)
    | none => none
  | some (.int .i32) => match runesOfCells l with
    | some s => some (.string s)
    | none => none
  | _ => none
def convRow (src dst e : TypeId) (a : Option Addr) (n c : Nat) : M Value := match Nat.beq src dst, P.underlying e, a with
  | true, some (.int .u8), some ⟨b, i, none⟩ => M.bnd (ownRow b) fun _ => M.ret (.slice (some ⟨b, i, none⟩) n c)
  | _, _, _ => M.fail
def convSlice (src dst : TypeId) (a : Option Addr) (n c : Nat) : M Value := match P.underlying src, P.underlying dst with
  | some (.slice e), some .string => M.bnd (rdSlice 1 (.slice a n c) n) fun l => M.opt (convCells P e l)
  | some (.slice _), some (.slice e) => convRow P src dst e a n c
  | _, _ => M.fail
def convV (src dst : TypeId) (x : Value) : M Value := match x with
  | .int _ n => match P.underlying src with
    | some (.int _) => M.opt (convInt P dst n)
    | _ => M.fail
  | .string s => match P.underlying src with
    | some .string => convStr P dst s
    | _ => M.fail
  | .slice a n c => convSlice P src dst a n c
  | _ => M.fail

def zeros (z : List Value) : Nat → List Value
  | 0 => []
  | n + 1 => z ++ zeros z n

/-- An own row that may be grown in place or copied: from here on it is read alone. What may lie in its memory. -/
def retire (k b upto : Nat) : M (List Nat) := touch b fun x => match x with
  | .cells cs true olds esz => match Nat.beq esz k && Nat.beq cs.length upto with
    | true => some (olds, some (.cells cs false olds esz))
    | false => none
  | _ => none

def appIn (k : Nat) (a : Option Addr) (sLen n code : Nat) (new : List Value) : M Value := match new, a with
  | [], _ => match Nat.beq n 0 with
    | true => M.ret (.slice a sLen code)
    | false => M.fail
  | new, some ⟨b, i, none⟩ => M.bnd (wrRow b (i + sLen * k) new) fun _ => M.ret (mkSlice a (sLen + n) code)
  | _, _ => M.fail
def appOut (k : Nat) (a : Option Addr) (sLen code n : Nat) (ex : Bool) (new old : List Value) : M Value := match ex, a with
  | true, _ => grown (old ++ new) (sLen + n) k []
  | false, some ⟨b, i, none⟩ => match Nat.beq (eszOf code) k with
    | true => M.bnd (retire k b (i + sLen * k)) fun olds => grown (old ++ new) (sLen + n) k (b :: olds)
    | false => M.fail
  | _, _ => M.fail
def appRow (k bytes : Nat) (a : Option Addr) (sLen code n : Nat) (new : List Value) : M Value := match capOf a code with
  | (c, ex) => match Nat.ble (sLen + n) c with
    | true => appIn k a sLen n code new
    | false => match Nat.ble ((sLen + n) * bytes) (2 ^ 40) && Nat.ble 1 bytes && Nat.ble 1 k with
      | true => M.bnd (rdSlice k (.slice a sLen code) sLen) fun old => appOut k a sLen code n ex new old
      | false => M.fail
def strK (k : Nat) : Value → Bool
  | .string _ => Nat.beq k 1
  | _ => true
def appendV (t : TypeId) (s x : Value) : M Value := match P.underlying t, s, lenV x with
  | some (.slice e), .slice a sLen code, some n => match P.info? e, zero' P e with
    | some info, some _ => match strK info.size x with
      | true => M.bnd (rdSlice info.size x n) fun new => appRow info.size info.bytes a sLen code n new
      | false => M.fail
    | _, _ => M.fail
  | _, _, _ => M.fail

def copyRow (a : Option Addr) (n : Nat) (cs : List Value) : M Value := match cs, a with
  | [], _ => M.opt (mkInt .i64 n)
  | cs, some ⟨b, i, none⟩ => M.bnd (wrRow b i cs) fun _ => M.opt (mkInt .i64 n)
  | _, _ => M.fail
def copyV (t : TypeId) (d x : Value) : M Value := match P.underlying t, d, lenV x with
  | some (.slice e), .slice a dLen _, some m => match sizeOf' P e with
    | some k => M.bnd (rdSlice k x (Nat.min m dLen)) fun cs => copyRow a (Nat.min m dLen) cs
    | none => M.fail
  | _, _, _ => M.fail

def findK (d : TypeDesc) (k : Value) : List (Value × Value) → Nat → Option (Option (Nat × Value))
  | [], _ => some none
  | e :: es, i => match Instr.sameNow d k e.1 with
    | some true => some (some (i, e.2))
    | some false => findK d k es (i + 1)
    | none => none
def getMap (r : Nat) : M (List (Value × Value)) := touch r fun x => match x with
  | .map es => some (es, none)
  | _ => none
def setMap (r : Nat) (es : List (Value × Value)) : M Unit := touch r fun x => match x with
  | .map _ => some ((), some (.map es))
  | _ => none

def lenB (t : TypeId) (x : Value) : M Value := match P.underlying t, x with
  | some .string, .string s => M.opt (mkInt .i64 s.size)
  | some (.array n _), _ => M.opt (mkInt .i64 n)
  | some (.slice _), .slice _ n _ => M.opt (mkInt .i64 n)
  | some (.map _ _), .map none => M.ret (.int .i64 0)
  | some (.map _ _), .map (some r) => M.bnd (getMap r) fun es => M.opt (mkInt .i64 es.length)
  | _, _ => M.fail
def clearB (t : TypeId) (x : Value) : M Value := match P.underlying t, x with
  | some (.map _ _), .map none => M.ret undefV
  | some (.map _ _), .map (some r) => M.bnd (setMap r []) fun _ => M.ret undefV
  | some (.slice _), .slice none _ _ => M.ret undefV
  | some (.slice _), .slice _ 0 _ => M.ret undefV
  | some (.slice e), .slice (some ⟨b, i, none⟩) n _ => match zero' P e with
    | some z => M.bnd (wrRow b i (zeros (cellsOf z) n)) fun _ => M.ret undefV
    | none => M.fail
  | _, _ => M.fail
def max2 : Value → Value → Option Value
  | .int k a, .int _ b => some (.int k (match decide (b > a) with | true => b | false => a))
  | _, _ => none
def min2 : Value → Value → Option Value
  | .int k a, .int _ b => some (.int k (match decide (b < a) with | true => b | false => a))
  | _, _ => none
def foldV (f : Value → Value → Option Value) : Value → List Value → Option Value
  | x, [] => some x
  | x, y :: l => match f x y with
    | some z => foldV f z l
    | none => none
def appB (t u : TypeId) (s x : Value) : M Value := match P.underlying u with
  | some (.slice _) => appendV P t s x
  | some .string => appendV P t s x
  | _ => M.fail
def builtinV (b : Builtin) (ts : List TypeId) (args : List Value) : M Value := match b, ts, args with
  | .append, t :: u :: _, [s, x] => appB P t u s x
  | .copy, t :: _, [d, x] => copyV P t d x
  | .len, t :: _, [x] => lenB P t x
  | .max, _, x :: rest => M.opt (foldV max2 x rest)
  | .min, _, x :: rest => M.opt (foldV min2 x rest)
  | .clear, t :: _, [x] => clearB P t x
  | _, _, _ => M.fail

def callee (f : Value) (args : List Value) : Option (FuncId × List Value) := match f with
  | .func (.func f) first captured => some (f, first.toList ++ args ++ captured.toList)
  | _ => none

def nilDeref : Value := .iface P.rt.errorString (strVal "invalid memory address or nil pointer dereference")

def isConst' : Operand → Bool
  | .const _ => true
  | _ => false

/-- What an operation comes to. -/
inductive Res where
  | val (v : Value)
  | enter (f : FuncId) (args : List Value)
  | panic (v : Value)
  | defer (f : FuncId) (args : List Value)
  | recover

def asVal (x : M Value) : M Res := M.bnd x fun v => M.ret (.val v)

def opPick (c a b : Value) : M Res := match c with
  | .bool true => M.ret (.val a)
  | .bool false => M.ret (.val b)
  | _ => M.fail
def ptrTo (x : M Nat) : M Res := M.bnd x fun b => M.ret (.val (ptr b 0))
def opAlloc (t : TypeId) : M Res := match zero' P t with
  | some z => ptrTo (newRow (cellsOf z) [] 0)
  | none => M.fail
def opBox (v : Value) : M Res := ptrTo (newRow (cellsOf v) [] 0)
def fieldPls : List Field → Option (List (Nat × Nat))
  | [] => some []
  | f :: fs => match sizeOf' P f.type, fieldPls fs with
    | some k, some l => some ((f.offset, k) :: l)
    | _, _ => none
def aggOf (o : Option (List Value)) : M Res := match o with
  | some cs => M.ret (.val (.agg cs.toArray))
  | none => M.fail
def opBuild (t : TypeId) (ps : List (Nat × Value)) : M Res := match zero' P t with
  | some z => match P.underlying t with
    | some (.struct fields) => match fieldPls P fields.toList with
      | some l => aggOf (fillA (nth l) (cellsOf z) ps)
      | none => M.fail
    | some (.array _ e) => match sizeOf' P e with
      | some k => aggOf (fillA (fun i => some (i * k, k)) (cellsOf z) ps)
      | none => M.fail
    | _ => M.fail
  | none => M.fail
def opBuildSlice (t : TypeId) (len : Nat) (ps : List (Nat × Value)) : M Res := match P.underlying t with
  | some (.slice e) => match sizeOf' P e, zero' P e with
    | some k, some z => match Nat.ble (len * k) (2 ^ 24), fillA (fun i => some (i * k, k)) (zeros (cellsOf z) len) ps with
      | true, some cs => M.bnd (newRow cs [] 0) fun b => M.ret (.val (.slice (some ⟨b, 0, none⟩) len (2 * len + 1)))
      | _, _ => M.fail
    | _, _ => M.fail
  | _ => M.fail
def opLoad (t : TypeId) (a : Value) : M Res := match addrOf a with
  | some (b, i) => asVal (loadV P t b i)
  | none => M.fail
def opStore (t : TypeId) (a x : Value) : M Res := match addrOf a with
  | some (b, i) => M.bnd (storeV P t b i x) fun _ => M.ret (.val undefV)
  | none => M.fail
def opNilCheck (x : Value) : M Res := match x with
  | .pointer none => M.ret (.panic (nilDeref P))
  | .nilIface => M.ret (.panic (nilDeref P))
  | .nilFunc => M.ret (.panic (nilDeref P))
  | .func (.method _) _ _ => M.fail
  | x => M.ret (.val x)
def optVal (o : Option Value) : M Res := match o with
  | some v => M.ret (.val v)
  | none => M.fail
def opIface (t : TypeId) (x : Value) : M Res := match P.underlying t with
  | some (.interface _) => M.fail
  | some _ => M.ret (.val (.iface t x))
  | none => M.fail
def opMakeSlice (t : TypeId) (l c : Value) : M Res := match P.underlying t, nat? l, nat? c with
  | some (.slice e), some l, some c => match P.info? e, zero' P e with
    | some info, some z => match Nat.ble l c && Nat.ble (c * info.bytes) (2 ^ 40) && Nat.ble c (2 ^ 40) with
      | true => M.bnd (newRow (zeros (cellsOf z) c) [] info.size) fun b => M.ret (.val (mkSlice (some ⟨b, 0, none⟩) l (2 * c + 1)))
      | false => M.fail
    | _, _ => M.fail
  | _, _, _ => M.fail
def opMakeMap : M Res := M.bnd (newObj (.map [])) fun r => M.ret (.val (.map (some r)))
def sliceStr (s : ByteArray) (l h : Nat) : Option Value := match Nat.ble h s.size && Nat.ble l h with
  | true => some (.string (s.extract l h))
  | false => none
def sliceArr (n e : Nat) (x : Value) (lo hi mx : Option Nat) : Option Value := match x, sizeOf' P e with
  | .pointer (some a), some k => sliceV k (some a) n (2 * n + 1) lo hi mx
  | _, _ => none
def sliceAny (t : TypeId) (x : Value) (lo hi mx : Option Nat) : Option Value := match P.underlying t, x with
  | some .string, .string s => match mx with
    | none => sliceStr s (lo.getD 0) (hi.getD s.size)
    | some _ => none
  | some (.slice e), .slice a n c => match sizeOf' P e with
    | some k => sliceV k a n c lo hi mx
    | none => none
  | some (.array n e), x => sliceArr P n e x lo hi mx
  | some (.pointer arr), x => match P.underlying arr with
    | some (.array n e) => sliceArr P n e x lo hi mx
    | _ => none
  | _, _ => none
def opSlice (t : TypeId) (x : Value) (lo hi mx : Option Value) : M Res := match natO lo, natO hi, natO mx with
  | some lo, some hi, some mx => optVal (sliceAny P t x lo hi mx)
  | _, _, _ => M.fail
def opFieldAddr (t : TypeId) (x : Value) (f : Nat) : M Res := match P.underlying t, addrOf x with
  | some (.struct fields), some (b, i) => match fields[f]? with
    | some fd => match sizeOf' P fd.type with
      | some (_ + 1) => force (i + fd.offset) fun j => M.ret (.val (ptr b j))
      | _ => M.fail
    | none => M.fail
  | _, _ => M.fail
def opField (t : TypeId) (x : Value) (f : Nat) : M Res := match P.underlying t, x with
  | some (.struct fields), .agg cs => match fields[f]? with
    | some fd => optVal (partV P fd.type cs.toList fd.offset)
    | none => M.fail
  | _, _ => M.fail
def ptrAt (b i n e j : Nat) : M Res := match sizeOf' P e, Nat.blt j n with
  | some k, true => force (i + j * k) fun o => M.ret (.val (ptr b o))
  | _, _ => M.fail
def opIndexAddr (t : TypeId) (x ix : Value) : M Res := match P.underlying t, x, nat? ix with
  | some (.array n e), .pointer (some ⟨b, i, none⟩), some j => ptrAt P b i n e j
  | some (.slice e), .slice (some ⟨b, i, none⟩) n _, some j => ptrAt P b i n e j
  | _, _, _ => M.fail
def opIndex (t : TypeId) (x ix : Value) : M Res := match P.underlying t, x, nat? ix with
  | some (.array n e), .agg cs, some j => match sizeOf' P e, Nat.blt j n with
    | some k, true => optVal (partV P e cs.toList (j * k))
    | _, _ => M.fail
  | some .string, .string s, some j => match nth s.data.toList j with
    | some b => M.ret (.val (.int .u8 b.toNat))
    | none => M.fail
  | _, _, _ => M.fail
def plainKey : TypeDesc → Bool
  | .int _ => true
  | .string => true
  | .bool => true
  | _ => false
def okPair (ok : Bool) (y : Value) : Value := match ok with
  | true => .tuple #[y, .bool true]
  | false => y
def notPair (ok : Bool) (y : Value) : Value := match ok with
  | true => .tuple #[y, .bool false]
  | false => y
def found (et : TypeId) (ok : Bool) (r : Option (Nat × Value)) : M Res := match r, zero' P et with
  | some (_, x), _ => M.ret (.val (okPair ok x))
  | none, some z => M.ret (.val (notPair ok z))
  | none, none => M.fail
def lookIn (kt et : TypeId) (k : Value) (ok : Bool) (es : List (Value × Value)) : M Res := match P.underlying kt with
  | some d => match plainKey d, findK d k es 0 with
    | true, some r => found P et ok r
    | _, _ => M.fail
  | none => M.fail
def opLookup (t : TypeId) (x k : Value) (ok : Bool) : M Res := match P.underlying t, x with
  | some (.map kt et), .map none => lookIn P kt et k ok []
  | some (.map kt et), .map (some r) => M.bnd (getMap r) fun es => lookIn P kt et k ok es
  | _, _ => M.fail
def storeIn (kt : TypeId) (r : Nat) (k x : Value) (es : List (Value × Value)) : M Res := match P.underlying kt with
  | some d => match plainKey d, findK d k es 0 with
    | true, some (some (i, _)) => M.bnd (setMap r (es.set i (k, x))) fun _ => M.ret (.val undefV)
    | true, some none => M.bnd (setMap r (es ++ [(k, x)])) fun _ => M.ret (.val undefV)
    | _, _ => M.fail
  | none => M.fail
def opMapUpdate (t : TypeId) (m k x : Value) : M Res := match P.underlying t, m with
  | some (.map kt _), .map (some r) => M.bnd (getMap r) fun es => storeIn P kt r k x es
  | _, _ => M.fail
def opRange (t : TypeId) (x : Value) : M Res := match P.underlying t, x with
  | some .string, .string s => ptrTo (newObj (.iter s 0))
  | _, _ => M.fail
def nextIn : AObj → Option (Res × Option AObj)
  | .iter s pos => match Nat.blt pos s.size with
    | true => match Utf8.decode s pos with
      | (c, width) => force c fun c => force (pos + width) fun pos' => some (.val (.tuple #[.bool true, .int .i64 pos, .int .i32 c]), some (.iter s pos'))
    | false => some (.val (.tuple #[.bool false]), none)
  | _ => none
def nextAt (r : Nat) : M Res := touch r nextIn
def opNext (it : Value) (str : Bool) : M Res := match str, addrOf it with
  | true, some (r, 0) => nextAt r
  | _, _ => M.fail
def notThat (asserted : TypeId) (ok : Bool) : M Res := match ok, zero' P asserted with
  | true, some z => M.ret (.val (.tuple #[z, .bool false]))
  | _, _ => M.fail
def assertTo (asserted : TypeId) (ok : Bool) (x : Value) : M Res := match x with
  | .iface t y => match Nat.beq t asserted with
    | true => M.ret (.val (okPair ok y))
    | false => notThat P asserted ok
  | .nilIface => notThat P asserted ok
  | _ => M.fail
def opAssert (x : Value) (asserted : TypeId) (ok : Bool) : M Res := match P.underlying asserted with
  | some (.interface _) => M.fail
  | some _ => assertTo P asserted ok x
  | none => M.fail
def opExtract (x : Value) (i : Nat) : M Res := match x with
  | .tuple vs => optVal (nth vs.toList i)
  | _ => M.fail
def opPanic (x : Value) : M Res := match x with
  | .iface t y => M.ret (.panic (.iface t y))
  | _ => M.fail
def entered (o : Option (FuncId × List Value)) : M Res := match o with
  | some (f, args) => M.ret (.enter f args)
  | none => M.fail
def deferred (o : Option (FuncId × List Value)) : M Res := match o with
  | some (f, args) => M.ret (.defer f args)
  | none => M.fail
def opBuiltin (b : Builtin) (ts : List TypeId) (args : List Value) : M Res := match b, args with
  | .recover, _ => M.ret .recover
  | .panic, [x] => opPanic x
  | b, args => asVal (builtinV P b ts args)
def opCall (ρ : Operand → Value) (c : Call) : M Res := match c.callee with
  | .value f => entered (callee (ρ f) (c.args.toList.map ρ))
  | .builtin b => opBuiltin P b c.argTypes.toList (c.args.toList.map ρ)
  | _ => M.fail
def opDefer (ρ : Operand → Value) (c : Call) : M Res := match c.callee with
  | .value f => deferred (callee (ρ f) (c.args.toList.map ρ))
  | _ => M.fail

def evOp (ρ : Operand → Value) : Op → M Res
  | .move x => M.ret (.val (ρ x))
  | .assign x => M.ret (.val (ρ x))
  | .pick c a b => opPick (ρ c) (ρ a) (ρ b)
  | .alloc t => opAlloc P t
  | .box _ x => opBox (ρ x)
  | .build t parts => opBuild P t (parts.toList.map fun p => (p.1, ρ p.2))
  | .buildSlice t len parts => opBuildSlice P t len (parts.toList.map fun p => (p.1, ρ p.2))
  | .load t a => opLoad P t (ρ a)
  | .store t a x => opStore P t (ρ a) (ρ x)
  | .nilCheck x => opNilCheck P (ρ x)
  | .binOp op t x y _ => optVal (binV P op t (isConst' x || isConst' y) (ρ x) (ρ y))
  | .unOp op _ x => optVal (unV op (ρ x))
  | .convert s d x => asVal (convV P s d (ρ x))
  | .makeInterface t x => opIface P t (ρ x)
  | .makeFunc fn first captured => M.ret (.val (.func fn (first.map ρ) (captured.map ρ)))
  | .makeSlice t l c => opMakeSlice P t (ρ l) (ρ c)
  | .makeMap _ none => opMakeMap
  | .slice t x lo hi mx => opSlice P t (ρ x) (lo.map ρ) (hi.map ρ) (mx.map ρ)
  | .fieldAddr t x f => opFieldAddr P t (ρ x) f
  | .field t x f => opField P t (ρ x) f
  | .indexAddr t x ix => opIndexAddr P t (ρ x) (ρ ix)
  | .index t x ix => opIndex P t (ρ x) (ρ ix)
  | .lookup t x k ok => opLookup P t (ρ x) (ρ k) ok
  | .mapUpdate t m k x => opMapUpdate P t (ρ m) (ρ k) (ρ x)
  | .range t x => opRange P t (ρ x)
  | .next it str => opNext (ρ it) str
  | .typeAssert x _ asserted ok => opAssert P (ρ x) asserted ok
  | .extract x i => opExtract (ρ x) i
  | .panic x => opPanic (ρ x)
  | .defer c => opDefer ρ c
  | .call c => opCall P ρ c
  | _ => M.fail
end
end Go.Shade
